/- Regions that draw their order, with operations that write among them, one behind the other: phase by phase. -/
import Derived.Test.YtkfhieigdlfbeaaDoorB130
namespace Go.AB

def valD (dst : Option Nat) (τ : AS) : AV := match dst with
  | some d => nth τ.s d
  | none => undefA
def valN (dst : Option Nat) (v : AV) : AV := match dst with
  | some _ => v
  | none => undefA
theorem valD_put {dst : Option Nat} {s : List AV} {m : AH} {v : AV} (h : ∀ d, dst = some d → d < s.length) : valD dst (AS.put ⟨s, m⟩ dst v) = valN dst v := by
  cases dst with
  | none => rfl
  | some d =>
    simp only [valD, valN, AS.put, nth_set]
    simp [h d rfl]
theorem put_valN {σ : AS} {dst : Option Nat} {v : AV} : σ.put dst (valN dst v) = σ.put dst v := by cases dst <;> rfl

def sameV : Option AV → AV → Prop
  | none, _ => True
  | some u, v => v = u

def kPass (f : List (Option AV) → AS → Prop) (x : Option AV) (acc : List (Option AV)) (dst : Option Nat) (τ : AS) : Prop :=
  sameV x (valD dst τ) ∧ f (some (valD dst τ) :: acc) τ

/-- The operations of a region in the order of the text: those that have been, those that come later, the one that writes (3), and those that are reckoned now (2). -/
def passP (P : Program) (ops : Array Oper) (K : List (Option AV) → List AV → AS → Prop) : List Oper → List Nat → List (Option AV) → List AV → List (Option AV) → AS → Prop
  | o :: r, k :: cl, x :: rec, sv, acc, σ => match k, x with
    | 0, some v => passP P ops K r cl rec sv (some v :: acc) (σ.put o.dst v)
    | 1, _ => passP P ops K r cl rec sv (none :: acc) (σ.put o.dst undefA)
    | 3, _ => passP P ops K r cl rec σ.s (none :: acc) (σ.put o.dst undefA)
    | 2, x => exGD P ops o σ (kPass (passP P ops K r cl rec sv) x acc o.dst)
    | _, _ => False
  | [], _, _, sv, acc, σ => K acc.reverse sv σ
  | _, _, _, _, _, _ => False

def kFin (K : AS → Prop) (_ : List (Option AV)) (_ : List AV) (τ : AS) : Prop := ∀ nx lv, τ.m.nx ≤ nx → (∀ j, τ.m.lv j → lv j) → K ⟨τ.s, ⟨τ.m.h, τ.m.o, nx, lv⟩⟩
def kNext (f : List (Option AV) → AH → Prop) (vals : List (Option AV)) (c : Nat) (dst : Option Nat) (τ : AS) : Prop := f (vals.set c (some (valD dst τ))) τ.m
def kLoud (P : Program) (ops : Array Oper) (c : Nat) (f : List (Option AV) → AH → Prop) (vals : List (Option AV)) (sv : List AV) (τ : AS) : Prop := match ops[c]? with
  | some o => ∀ nx lv, τ.m.nx ≤ nx → (∀ j, τ.m.lv j → lv j) → exG P ops o ⟨sv, ⟨τ.m.h, τ.m.o, nx, lv⟩⟩ (kNext f vals c o.dst)
  | none => False

def exPh (P : Program) (ops : Array Oper) (l : List Oper) (s0 : List AV) (K : AS → Prop) : List (Nat × List Nat) → List Nat → List (Option AV) → AH → Prop
  | [], cl, rec, m => passP P ops (kFin K) l cl rec [] [] ⟨s0, m⟩
  | (c, cl') :: cs, cl, rec, m => passP P ops (kLoud P ops c (exPh P ops l s0 K cs cl')) l cl rec [] [] ⟨s0, m⟩

def recOf : List Nat → List AV → List (Option AV)
  | k :: cl, v :: vs => (if k = 1 ∨ k = 3 then none else some v) :: recOf cl vs
  | _, _ => []

theorem recOf_len : ∀ {cl : List Nat} {vs : List AV}, cl.length = vs.length → (recOf cl vs).length = vs.length
  | [], [], _ => rfl
  | [], _ :: _, h => by simp at h
  | _ :: _, [], h => by simp at h
  | k :: cl, v :: vs, h => by simp only [recOf, List.length_cons]; rw [recOf_len (by simpa using h)]
theorem recOf_get : ∀ {cl : List Nat} {vs : List AV} {i k : Nat} {v : AV}, cl[i]? = some k → vs[i]? = some v → (recOf cl vs)[i]? = some (if k = 1 ∨ k = 3 then none else some v)
  | [], _, i, k, v, h, _ => by simp at h
  | _ :: _, [], i, k, v, _, h => by simp at h
  | k0 :: cl, v0 :: vs, 0, k, v, h1, h2 => by simp at h1 h2; subst h1 h2; rfl
  | k0 :: cl, v0 :: vs, i + 1, k, v, h1, h2 => by
    simp only [recOf, List.getElem?_cons_succ]
    exact recOf_get (by simpa using h1) (by simpa using h2)

theorem YieldsA.valN {P : Program} {ops : Array Oper} {o : Oper} {v : AV} {σ : AS} (h : YieldsA P ops o v σ) : YieldsA P ops o (valN o.dst v) σ := by
  cases hd : o.dst with
  | some d => exact h
  | none =>
    intro σ' ag K' hK'
    refine h σ' ag K' (fun nx lv h1 h2 => ?_)
    have := hK' nx lv h1 h2
    rw [hd] at this ⊢
    exact this

/-- What a pass comes to. -/
structure PassD (P : Program) (ops : Array Oper) (l : List Oper) (cl : List Nat) (rec : List (Option AV)) (sv0 : List AV) (σ : AS) (vs sv : List AV) : Prop where
  len : vs.length = l.length
  cls : cl.length = l.length
  kind : ∀ (i k : Nat), cl[i]? = some k → k = 0 ∨ k = 1 ∨ k = 2 ∨ k = 3
  yld : ∀ (i : Nat) (o : Oper) (v : AV), l[i]? = some o → vs[i]? = some v → cl[i]? = some 2 → YieldsA P ops o v (puts σ (l.take i) (vs.take i))
  rcd : ∀ (i k : Nat) (v : AV), cl[i]? = some k → k = 0 ∨ k = 2 → rec[i]? = some (some v) → vs[i]? = some v
  sv : (∃ i : Nat, cl[i]? = some 3 ∧ sv = (puts σ (l.take i) (vs.take i)).s ∧ ∀ j : Nat, i < j → cl[j]? ≠ some 3) ∨ (sv = sv0 ∧ ∀ i : Nat, cl[i]? ≠ some 3)

theorem pass_text {P : Program} {ops : Array Oper} {K : List (Option AV) → List AV → AS → Prop} : ∀ (l : List Oper) (cl : List Nat) (rec : List (Option AV)) (sv : List AV) (acc : List (Option AV)) (σ : AS),
    cl.length = l.length → (∀ o ∈ l, ∀ d, o.dst = some d → d < σ.s.length) → passP P ops K l cl rec sv acc σ →
    ∃ vs sv', PassD P ops l cl rec sv σ vs sv' ∧ K (acc.reverse ++ recOf cl vs) sv' (puts σ l vs)
  | [], cl, rec, sv, acc, σ, hcl, _, h => by
    cases cl with
    | cons _ _ => simp at hcl
    | nil => exact ⟨[], sv, ⟨rfl, rfl, by simp, by simp, by simp, .inr ⟨rfl, by simp⟩⟩, by
      have h' : K acc.reverse sv σ := by cases rec <;> exact h
      simpa [recOf, puts] using h'⟩
  | o :: r, [], rec, sv, acc, σ, hcl, _, h => by simp at hcl
  | o :: r, k :: cl, [], sv, acc, σ, _, _, h => by simp [passP] at h
  | o :: r, k :: cl, x :: rec, sv, acc, σ, hcl, hd, h => by
    have hcl' : cl.length = r.length := by simpa using hcl
    have hlen : ∀ v, ∀ o' ∈ r, ∀ d, o'.dst = some d → d < (σ.put o.dst v).s.length := fun v o' ho' d hdd => by
      rw [put_len]; exact hd o' (List.mem_cons_of_mem _ ho') d hdd
    have fin : ∀ (v : AV) (sv1 : List AV) (y : Option AV), (y = if k = 1 ∨ k = 3 then none else some v) → passP P ops K r cl rec sv1 (y :: acc) (σ.put o.dst v) → (k = 0 ∨ k = 1 ∨ k = 2 ∨ k = 3) → (k = 2 → YieldsA P ops o v σ) →
        (k = 0 ∨ k = 2 → ∀ u, x = some u → v = u) → (k = 3 → sv1 = σ.s) → (k ≠ 3 → sv1 = sv) →
        ∃ vs sv', PassD P ops (o :: r) (k :: cl) (x :: rec) sv σ vs sv' ∧ K (acc.reverse ++ recOf (k :: cl) vs) sv' (puts σ (o :: r) vs) := by
      intro v sv1 y hy hp hk hyl hrec hs3 hs
      obtain ⟨vs, sv', D, g2⟩ := pass_text r cl rec sv1 (y :: acc) (σ.put o.dst v) hcl' (hlen v) hp
      refine ⟨v :: vs, sv', ⟨by simp [D.len], by simp [hcl'], fun i k' hk' => ?_, fun i o' v' ho' hv' hc' => ?_, fun i k' v' hc' hk' hr' => ?_, ?_⟩, ?_⟩
      · cases i with
        | zero => simp at hk'; subst hk'; exact hk
        | succ i => exact D.kind i k' (by simpa using hk')
      · cases i with
        | zero =>
          simp at ho' hv' hc'
          subst ho' hv'
          simpa [puts] using hyl hc'
        | succ i =>
          simp only [List.take_succ_cons]
          unfold puts
          exact D.yld i o' v' (by simpa using ho') (by simpa using hv') (by simpa using hc')
      · cases i with
        | zero =>
          simp at hc' hr' ⊢
          subst hc'
          exact hrec hk' v' hr'
        | succ i => simpa using D.rcd i k' v' (by simpa using hc') hk' (by simpa using hr')
      · rcases D.sv with ⟨i, h1, h2, h3⟩ | ⟨h1, h2⟩
        · refine .inl ⟨i + 1, by simpa using h1, ?_, fun j hj => ?_⟩
          · rw [h2]; simp only [List.take_succ_cons, puts]
          · cases j with
            | zero => omega
            | succ j => simpa using h3 j (by omega)
        · by_cases hk3 : k = 3
          · refine .inl ⟨0, by simp [hk3], by rw [h1, hs3 hk3]; simp [puts], fun j hj => ?_⟩
            cases j with
            | zero => omega
            | succ j => simpa using h2 j
          · refine .inr ⟨by rw [h1, hs hk3], fun i => ?_⟩
            cases i with
            | zero => simpa using hk3
            | succ i => simpa using h2 i
      · unfold puts
        simp only [recOf]
        rw [← hy]
        simpa using g2
    unfold passP at h
    split at h
    · rename_i v
      exact fin v _ (some v) (by simp) h (by simp) (by simp) (fun _ u hu => by cases hu; rfl) (by simp) (fun _ => rfl)
    · exact fin undefA _ none (by simp) h (by simp) (by simp) (fun e => by omega) (by simp) (fun _ => rfl)
    · exact fin undefA _ none (by simp) h (by simp) (by simp) (fun e => by omega) (fun _ => rfl) (fun e => absurd rfl e)
    · obtain ⟨v, ⟨h1, h2⟩, h3⟩ := exGD_local h
      have ev : valD o.dst (σ.put o.dst v) = valN o.dst v := valD_put (fun d hdd => hd o (List.mem_cons_self ..) d hdd)
      rw [ev] at h1 h2
      refine fin (valN o.dst v) _ (some (valN o.dst v)) (by simp) (by rw [put_valN]; exact h2) (by simp) (fun _ => h3.valN) (fun _ u hu => ?_) (by simp) (fun _ => rfl)
      cases hu
      exact h1
    · exact h.elim

/-- Operations that may write. -/
def loudB : Op → Bool
  | .store .. | .call _ | .mapUpdate .. | .alloc _ | .box .. | .buildSlice .. | .makeMap .. | .makeSlice .. => true
  | _ => false

theorem exLit_mono {P : Program} {m : AH} {t len : Nat} {ps : List (Nat × AV)} {K K' : AH → AV → Prop} (h : exLit P m t len ps K) (hK : ∀ m v, K m v → K' m v) : exLit P m t len ps K' := by
  unfold exLit at h ⊢
  split at h
  · split at h
    · obtain ⟨h1, h2, h3, h4, h5, h6⟩ := h
      exact ⟨h1, h2, h3, h4, h5, hK _ _ h6⟩
    · exact h.elim
  · exact h.elim
theorem exMake_mono {P : Program} {m : AH} {d : Option Nat} {t : Nat} {l c : AV} {K K' : AH → AV → Prop} (h : exMake P m d t l c K) (hK : ∀ m v, K m v → K' m v) : exMake P m d t l c K' := by
  unfold exMake at h ⊢
  split at h
  · split at h
    · obtain ⟨h1, h2, h3, h4, h5⟩ := h
      exact ⟨h1, h2, h3, h4, hK _ _ h5⟩
    · exact h.elim
  · exact h.elim
theorem exStore_mono {P : Program} {m : AH} {t : Nat} {a x : AV} {K K' : AH → Prop} (h : exStore P m t a x K) (hK : ∀ m, K m → K' m) : exStore P m t a x K' := by
  unfold exStore at h ⊢
  split at h
  · split at h
    · obtain ⟨h1, h2, h3, h4⟩ := h
      exact ⟨h1, h2, h3, hK _ h4⟩
    · exact h.elim
  · exact h.elim
theorem exUpdate_mono {P : Program} {m : AH} {t : Nat} {x k v : AV} {K K' : AH → Prop} (h : exUpdate P m t x k v K) (hK : ∀ m, K m → K' m) : exUpdate P m t x k v K' := by
  unfold exUpdate upC at h ⊢
  split at h
  · split at h
    · split at h
      · split at h
        · obtain ⟨h1, h2, h3⟩ := h
          exact ⟨h1, h2, hK _ h3⟩
        · exact h.elim
      · exact h.elim
    · exact h.elim
  · exact h.elim

section
variable {P : Program} {ops : Array Oper} {o : Oper} {s s' : List AV} {m : AH}

/-- The slots that a state shows beside its memory. -/
def JK (s' : List AV) (dst : Option Nat) (J : AH → AV → Prop) (τ : AS) : Prop := ∃ v, τ = AS.put ⟨s', τ.m⟩ dst v ∧ J τ.m (valN dst v)

theorem JK.put {dst : Option Nat} {J : AH → AV → Prop} {m' : AH} {v : AV} (hs : ∀ d, dst = some d → d < s.length) (h : J (AS.put ⟨s, m'⟩ dst v).m (valD dst (AS.put ⟨s, m'⟩ dst v))) : JK s' dst J (AS.put ⟨s', m'⟩ dst v) := by
  rw [valD_put hs, put_m] at h
  exact ⟨v, by rw [put_m], by rw [put_m]; exact h⟩

theorem loud_op {J : AH → AV → Prop} (hl : loudB o.op = true) (ag : Agree ops o ⟨s, m⟩ ⟨s', m⟩) (hs : ∀ d, o.dst = some d → d < s.length)
    (h : exOp P o ⟨s, m⟩ (fun τ => J τ.m (valD o.dst τ))) : exOp P o ⟨s', m⟩ (JK s' o.dst J) := by
  obtain ⟨dst, op, ty, pos, after, guard⟩ := o
  rw [exOp_eq] at h ⊢
  have e1 : ∀ (x : Operand), x ∈ op.operands → ∀ t, AS.ev P ⟨s', m⟩ t x = AS.ev P ⟨s, m⟩ t x := fun x hx t => ag.ev hx t
  cases op <;> first | (cases hl; done) | skip
  case alloc t =>
    simp only at h ⊢
    split at h
    · exact JK.put hs h
    · split at h
      · exact JK.put hs h
      · exact h.elim
    · exact h.elim
  case box t x =>
    simp only at h ⊢
    split at h
    · rw [e1 x (by simp [Op.operands])]
      exact ⟨h.1, JK.put hs h.2⟩
    · exact h.elim
  case buildSlice t len ps =>
    simp only at h ⊢
    have e : evP P ⟨s', m⟩ t ps = evP P ⟨s, m⟩ t ps := by
      unfold evP
      apply List.map_congr_left
      intro p hp
      rw [e1 p.2 (by simp only [Op.operands]; simp; exact ⟨p.1, by simpa using hp⟩)]
    rw [e]
    exact exLit_mono h fun m' v h => JK.put hs h
  case store t x y =>
    simp only at h ⊢
    rw [e1 x (by simp [Op.operands]), e1 y (by simp [Op.operands])]
    exact exStore_mono h fun m' h => JK.put hs h
  case makeSlice t x y =>
    simp only at h ⊢
    rw [e1 x (by simp [Op.operands]), e1 y (by simp [Op.operands])]
    exact exMake_mono h fun m' v h => JK.put hs h
  case makeMap t r =>
    cases r with
    | some _ => exact h.elim
    | none =>
      simp only at h ⊢
      split at h
      · exact JK.put hs h
      · exact h.elim
  case mapUpdate t x k v =>
    simp only at h ⊢
    rw [e1 x (by simp [Op.operands]), e1 k (by simp [Op.operands]), e1 v (by simp [Op.operands])]
    exact exUpdate_mono h fun m' h => JK.put hs h
  case call c =>
    simp only at h ⊢
    obtain ⟨callee, args, argTypes⟩ := c
    have e2 : evs P ⟨s', m⟩ argTypes args = evs P ⟨s, m⟩ argTypes args := ag.evs (fun x hx => by simp only [Op.operands, Call.operands, Array.mem_append]; exact .inr hx) _
    rw [exCall_eq] at h ⊢
    simp only [e2]
    cases callee with
    | builtin b =>
      simp only at h ⊢
      unfold exBuiltin at h ⊢
      split at h
      · obtain ⟨v, h1, h2⟩ := exLen_det _ h
        exact h2 _ (JK.put hs h1)
      · exact exAppX_mono h fun m' v h => JK.put hs h
      · obtain ⟨v, h1, h2⟩ := exMM_det _ h
        exact h2 _ (JK.put hs h1)
      · obtain ⟨v, h1, h2⟩ := exMM_det _ h
        exact h2 _ (JK.put hs h1)
      · exact h.elim
    | value f =>
      simp only at h ⊢
      rw [e1 f (by simp [Op.operands, Call.operands])]
      split at h
      · obtain ⟨hb, h⟩ := h
        refine ⟨hb, ?_⟩
        have inl : ∀ {k : Nat} {as : List AV}, inlK P k as ⟨s, m⟩ dst (fun τ => J τ.m (valD dst τ)) → inlK P k as ⟨s', m⟩ dst (JK s' dst J) := by
          intro k as h
          unfold inlK at h ⊢
          obtain ⟨R, h1, h2⟩ := h
          exact ⟨R, h1, fun m' r hr => JK.put hs (h2 m' r hr)⟩
        have eff : ∀ {k : Nat} {as : List AV}, effK P k as ⟨s, m⟩ dst (fun τ => J τ.m (valD dst τ)) → effK P k as ⟨s', m⟩ dst (JK s' dst J) := by
          intro k as h
          unfold effK at h ⊢
          obtain ⟨ls, as, css, ds, R, h1, h2, h3, h4, h5, h6⟩ := h
          refine ⟨ls, as, css, ds, R, h1, h2, h3, h4, h5, fun m' r hr => ?_⟩
          obtain ⟨ad, T, c0, cs2, r2, k1, k2, k3, k4, k5⟩ := h6 m' r hr
          exact ⟨ad, T, c0, cs2, r2, k1, k2, k3, k4, JK.put hs k5⟩
        split at h
        · obtain ⟨as, has, h⟩ := h
          refine ⟨as, has, ?_⟩
          unfold callX at h ⊢
          rcases h with ⟨R, h1, h2⟩ | h | h
          · refine .inl ⟨R, h1, ?_⟩
            unfold callK at h2 ⊢
            exact fun m' r g1 nx2 lv2 g2 g3 g4 => JK.put hs (h2 m' r g1 nx2 lv2 g2 g3 g4)
          · exact .inr (.inl (inl h))
          · exact .inr (.inr (eff h))
        · rcases h with ⟨as, has, h⟩ | h
          · refine .inl ⟨as, has, ?_⟩
            unfold quietK at h ⊢
            obtain ⟨r, h1, h2, h3⟩ := h
            exact ⟨r, h1, h2, JK.put hs h3⟩
          · refine .inr ?_
            unfold effX at h ⊢
            rcases h with h | h
            · refine .inl ?_
              unfold effK at h ⊢
              obtain ⟨ls, as, css, ds, R, h1, h2, h3, h4, h5, h6⟩ := h
              refine ⟨ls, as, css, ds, R, h1, h2, h3, h4, h5, fun m' r hr => ?_⟩
              obtain ⟨ad, T, c0, cs2, r2, k1, k2, k3, k4, k5⟩ := h6 m' r hr
              exact ⟨ad, T, c0, cs2, r2, k1, k2, k3, k4, JK.put hs k5⟩
            · exact .inr (inl h)
      · exact h.elim
    | invoke _ _ => exact h.elim

theorem loud_g {J : AH → AV → Prop} (hl : loudB o.op = true) (ag : Agree ops o ⟨s, m⟩ ⟨s', m⟩) (hs : ∀ d, o.dst = some d → d < s.length) 
    (h : exG P ops o ⟨s, m⟩ (fun τ => J τ.m (valD o.dst τ))) : exG P ops o ⟨s', m⟩ (JK s' o.dst J) := by
  unfold exG at h ⊢
  split at h
  · exact loud_op hl ag hs h
  · rename_i j want hg
    split at h
    · rename_i d hd
      have hmem : d ∈ o.looksAt ops := by
        unfold Oper.looksAt
        rw [hg]
        exact List.mem_append_right _ (by simp [hd])
      have hb' : nth s' d = nth s d := ag.s d hmem
      simp only
      split at h
      · rename_i b hb
        have h := gateW_iff.1 h
        rw [hb', hb]
        refine gateW_iff.2 ⟨fun hbw => ?_, fun hbw => ?_⟩
        · have h1 := h.1 hbw
          rw [put_same (hb.trans (by rw [hbw])) (by simp [undefA])] at h1
          rw [put_same ((hb'.trans hb).trans (by rw [hbw])) (by simp [undefA])]
          exact loud_op hl ag hs h1
        · have h1 := h.2 hbw
          rw [put_same (hb.trans (by rw [hbw])) (by simp [undefA])] at h1
          rw [put_same ((hb'.trans hb).trans (by rw [hbw])) (by simp [undefA])]
          exact JK.put hs h1
      · rename_i hb
        rw [hb', hb]
        exact JK.put hs h
      · exact h.elim
    · exact h.elim
end

def phB (ops : Array Oper) (an : List (List Nat)) : List (Nat × List Nat) → List Nat → Bool
  | [], cl => cl.all fun k => k == 0 || k == 2
  | (c, cl') :: cs, cl => cl[c]? == some 3 && cl'[c]? == some 0 && cl'.length == cl.length && (match ops[c]? with | some o => loudB o.op | none => false) &&
    ((List.range cl.length).all fun i => (cl[i]? != some 1 || (an.getD i []).contains c) && (cl[i]? != some 3 || i == c) && (cl'[i]? != some 0 || cl[i]? == some 0 || i == c || (an.getD c []).contains i) &&
      (!(cl'[i]? == some 1 || cl'[i]? == some 3) || cl[i]? == some 1)) && phB ops an cs cl'

structure PhOk (ops : Array Oper) (c : Nat) (cl cl' : List Nat) : Prop where
  me : cl[c]? = some 3
  me' : cl'[c]? = some 0
  len : cl'.length = cl.length
  loud : ∀ o, ops[c]? = some o → loudB o.op = true
  late : ∀ i : Nat, cl[i]? = some 1 → Anc ops i c
  only : ∀ i : Nat, cl[i]? = some 3 → i = c
  been : ∀ i : Nat, cl'[i]? = some 0 → cl[i]? = some 0 ∨ i = c ∨ Anc ops c i
  next : ∀ i : Nat, cl'[i]? = some 1 ∨ cl'[i]? = some 3 → cl[i]? = some 1

theorem phB_spec {ops : Array Oper} {c : Nat} {cl cl' : List Nat} {cs : List (Nat × List Nat)} (h : phB ops (ancs ops.toList) ((c, cl') :: cs) cl = true) : PhOk ops c cl cl' ∧ phB ops (ancs ops.toList) cs cl' = true := by
  have hA : ∀ j i, ((ancs ops.toList).getD j []).contains i = true → Anc ops j i := fun j i h =>
    ancs_go ops.toList [] [] (by simp) rfl (fun j i hi => by simp at hi) j i (List.contains_iff_mem.1 h)
  simp only [phB, Bool.and_eq_true, beq_iff_eq] at h
  obtain ⟨⟨⟨⟨⟨h1, h2⟩, h3⟩, h4⟩, h5⟩, h6⟩ := h
  have key : ∀ i : Nat, i < cl.length → (cl[i]? ≠ some 1 ∨ Anc ops i c) ∧ (cl[i]? ≠ some 3 ∨ i = c) ∧ (cl'[i]? ≠ some 0 ∨ cl[i]? = some 0 ∨ i = c ∨ Anc ops c i) ∧ (¬ (cl'[i]? = some 1 ∨ cl'[i]? = some 3) ∨ cl[i]? = some 1) := fun i hi => by
    have := List.all_eq_true.1 h5 i (List.mem_range.2 hi)
    simp only [Bool.and_eq_true, Bool.or_eq_true, bne_iff_ne, beq_iff_eq, Bool.not_eq_true', Bool.or_eq_false_iff, beq_eq_false_iff_ne] at this
    obtain ⟨⟨⟨k1, k2⟩, k3⟩, k4⟩ := this
    refine ⟨k1.imp id (hA i c), k2, ?_, ?_⟩
    · rcases k3 with ((k3 | k3) | k3) | k3
      · exact .inl k3
      · exact .inr (.inl k3)
      · exact .inr (.inr (.inl k3))
      · exact .inr (.inr (.inr (hA c i k3)))
    · rcases k4 with k4 | k4
      · exact .inl (fun e => e.elim k4.1 k4.2)
      · exact .inr k4
  have lt : ∀ {i k : Nat}, cl[i]? = some k → i < cl.length := fun h => (List.getElem?_eq_some_iff.1 h).1
  have lt' : ∀ {i k : Nat}, cl'[i]? = some k → i < cl.length := fun h => by rw [← h3]; exact (List.getElem?_eq_some_iff.1 h).1
  refine ⟨⟨h1, h2, h3, fun o ho => by simpa [ho] using h4, fun i hi => ((key i (lt hi)).1).resolve_left (fun e => e hi), fun i hi => ((key i (lt hi)).2.1).resolve_left (fun e => e hi),
    fun i hi => ((key i (lt' hi)).2.2.1).resolve_left (fun e => e hi), fun i hi => ((key i (hi.elim lt' lt')).2.2.2).resolve_left (fun e => e hi)⟩, h6⟩

/-- What is to be shown behind a pass. -/
def PhK (P : Program) (ops : Array Oper) (s0 : List AV) (K : AS → Prop) (cs : List (Nat × List Nat)) (cl : List Nat) (vs sv : List AV) (m : AH) : Prop := match cs with
  | [] => kFin K [] [] (puts ⟨s0, m⟩ ops.toList vs)
  | (c, cl') :: cs => kLoud P ops c (exPh P ops ops.toList s0 K cs cl') (recOf cl vs) sv (puts ⟨s0, m⟩ ops.toList vs)

section
variable {P : Program} {E : Env} {ops : Array Oper}

theorem phase_ok (hT : TabsOk P E) (hd : DrawOk ops) {s0 : List AV} (hdst : ∀ o ∈ ops.toList, ∀ d, o.dst = some d → d < s0.length) {Q : Exit → AS → Prop} :
    ∀ (fuel : Nat) (cs : List (Nat × List Nat)) (cl : List Nat) (m : AH) (vs sv : List AV) (L : Array Bool) (σ : AS) (a : Act) (w : World), phB ops (ancs ops.toList) cs cl = true →
      (∃ rec, PassD P ops ops.toList cl rec [] ⟨s0, m⟩ vs sv) →
      PhK P ops s0 (Q .normal) cs cl vs sv m →
      (∀ i k : Nat, L.getD i false = true → cl[i]? = some k → k = 0 ∨ k = 2) → (∀ i : Nat, cl[i]? = some 0 → L.getD i false = true) →
      (L.toList.filter (fun b => !b)).length ≤ fuel → JL ops vs ⟨s0, m⟩ L σ → St E σ a w → wpAny P .any ops (Lift0 E Q) fuel L a w := by
  have fin : ∀ (cs : List (Nat × List Nat)) (cl : List Nat) (m : AH) (vs sv : List AV) (L : Array Bool) (σ : AS) (a : Act) (w : World), phB ops (ancs ops.toList) cs cl = true →
      (∃ rec, PassD P ops ops.toList cl rec [] ⟨s0, m⟩ vs sv) →
      PhK P ops s0 (Q .normal) cs cl vs sv m →
      (∀ i k : Nat, L.getD i false = true → cl[i]? = some k → k = 0 ∨ k = 2) → JL ops vs ⟨s0, m⟩ L σ → St E σ a w → Region.ready .any ops L = [] → Lift0 E Q .normal a w := by
    intro cs cl m vs sv L σ a w hB ⟨rec, D⟩ hK hN J hst hr
    have hl : vs.length = ops.size := by rw [D.len]; simp
    cases cs with
    | cons p cs =>
      obtain ⟨c, cl'⟩ := p
      obtain ⟨C, _⟩ := phB_spec hB
      have hc : c < ops.size := by
        have := (List.getElem?_eq_some_iff.1 C.me).1
        have := D.cls
        simp at this
        omega
      have := hN c 3 (ready_nil hd J.size hr c hc) C.me
      omega
    | nil =>
      refine ⟨σ, hst, ?_⟩
      have h1 := J.final hd hl hr
      have := hK σ.m.nx σ.m.lv (by rw [puts_m]; exact J.nx) (by rw [puts_m]; exact J.lv)
      rw [← h1, puts_m, ← J.h, ← J.o] at this
      exact this
  intro fuel
  induction fuel with
  | zero =>
    intro cs cl m vs sv L σ a w hB D hK hN hS hc J hst
    have hr : Region.ready .any ops L = [] := by
      apply List.eq_nil_iff_forall_not_mem.2
      intro i hi
      obtain ⟨h1, h2⟩ := undone (mem_ready.1 hi).1
      rw [none_left h2 hc] at h1; cases h1
    exact ⟨hr, fin cs cl m vs sv L σ a w hB D hK hN J hst hr⟩
  | succ fuel ih =>
    intro cs cl m vs sv L σ a w hB D0 hK hN hS hc J hst
    refine ⟨fun hr => fin cs cl m vs sv L σ a w hB D0 hK hN J hst hr, fun i hi => ?_⟩
    obtain ⟨rec, D⟩ := D0
    have hl : vs.length = ops.size := by rw [D.len]; simp
    have hcl : cl.length = ops.size := by rw [D.cls]; simp
    obtain ⟨hun, o, ho, hall⟩ := mem_ready.1 hi
    obtain ⟨hun', hlt⟩ := undone hun
    have hilt := (Array.getElem?_eq_some_iff.1 ho).1
    have hv := List.getElem?_eq_getElem (l := vs) (i := i) (by omega)
    have hk := List.getElem?_eq_getElem (l := cl) (i := i) (by omega)
    have ag := J.agree hd hl ho hi
    have hol : ops.toList[i]? = some o := by simpa using ho
    have hquiet : cl[i]? = some 2 → wpOp P ops (Lift0 E Q) i (fun a' w' => wpAny P .any ops (Lift0 E Q) fuel (L.setIfInBounds i true) a' w') a w := by
      intro h2
      have key := D.yld i o _ hol hv h2 σ ag (fun τ => JL ops vs ⟨s0, m⟩ (L.setIfInBounds i true) τ) (fun nx lv g1 g2 => J.step hd ho hv hi g1 g2)
      refine wpOp_mono ?_ (exG_ok hT ho key hst)
      rintro a' w' ⟨σ', hst', J'⟩
      have hN' : ∀ j k : Nat, (L.setIfInBounds i true).getD j false = true → cl[j]? = some k → k = 0 ∨ k = 2 := fun j k hj hjk => by
        by_cases hij : i = j
        · subst hij
          rw [h2] at hjk
          cases hjk
          exact .inr rfl
        · rw [getD_set_ne false hij] at hj
          exact hN j k hj hjk
      have hS' : ∀ j : Nat, cl[j]? = some 0 → (L.setIfInBounds i true).getD j false = true := fun j hj => by
        by_cases hij : i = j
        · subst hij; rw [h2] at hj; cases hj
        · rw [getD_set_ne false hij]; exact hS j hj
      rcases J' with J' | J'
      · exact ih cs cl m vs sv _ σ' a' w' hB ⟨rec, D⟩ hK hN' hS' (count_set hlt hun hc) J' hst'
      · exact ih cs cl m vs sv _ _ a' w' hB ⟨rec, D⟩ hK hN' hS' (count_set hlt hun hc) J' (hst'.erAt o.dst)
    rcases D.kind i _ hk with h0 | h1 | h2 | h3
    · rw [h0] at hk
      rw [hS i hk] at hun'
      cases hun'
    · rw [h1] at hk
      exfalso
      cases cs with
      | nil =>
        have := List.all_eq_true.1 hB 1 (List.mem_of_getElem? hk)
        simp at this
      | cons p cs =>
        obtain ⟨c, cl'⟩ := p
        obtain ⟨C, _⟩ := phB_spec hB
        have := (C.late i hk).ready J.closed ho hall
        have := hN c 3 this C.me
        omega
    · rw [h2] at hk
      exact hquiet hk
    · rw [h3] at hk
      cases cs with
      | nil =>
        have := List.all_eq_true.1 hB 3 (List.mem_of_getElem? hk)
        simp at this
      | cons p cs =>
        obtain ⟨c, cl'⟩ := p
        obtain ⟨C, hB'⟩ := phB_spec hB
        have hic := C.only i hk
        subst hic
        unfold PhK kLoud at hK
        simp only [ho] at hK
        have hK := hK σ.m.nx σ.m.lv (by rw [puts_m]; exact J.nx) (by rw [puts_m]; exact J.lv)
        simp only [puts_m] at hK
        have em : (⟨m.h, m.o, σ.m.nx, σ.m.lv⟩ : AH) = σ.m := by
          have h1 := J.h
          have h2 := J.o
          simp only at h1 h2
          rw [← h1, ← h2]
        rw [em] at hK
        have hsv : sv = (puts ⟨s0, m⟩ (ops.toList.take i) (vs.take i)).s := by
          rcases D.sv with ⟨j, g1, g2, _⟩ | ⟨_, g2⟩
          · rw [C.only j g1] at g2; exact g2
          · exact absurd hk (g2 i)
        have hsl : sv.length = s0.length := by rw [hsv, puts_len]
        have hdo : ∀ d, o.dst = some d → d < s0.length := hdst o (List.mem_of_getElem? hol)
        have ag' : Agree ops o ⟨sv, σ.m⟩ ⟨σ.s, σ.m⟩ := ⟨fun t ht => by rw [hsv]; exact ag.s t ht, rfl, rfl⟩
        have key := loud_g (P := P) (J := fun m' v => exPh P ops ops.toList s0 (Q .normal) cs cl' ((recOf cl vs).set i (some v)) m') (C.loud o ho) ag' (fun d hdd => by rw [hsl]; exact hdo d hdd) hK
        refine wpOp_mono ?_ (exG_ok hT ho key hst)
        rintro a' w' ⟨σ', hst', v, hσ', hJ⟩
        have hrl : (recOf cl vs).length = ops.size := by rw [recOf_len (by omega)]; exact hl
        -- the next phase's pass
        have next : ∃ vs' sv', (∃ rec, PassD P ops ops.toList cl' rec [] ⟨s0, σ'.m⟩ vs' sv') ∧ (∀ (j k : Nat) (v : AV), cl'[j]? = some k → k = 0 ∨ k = 2 → ((recOf cl vs).set i (some (valN o.dst v)))[j]? = some (some v) → True) ∧
            (∀ (j k : Nat) (u : AV), cl'[j]? = some k → k = 0 ∨ k = 2 → ((recOf cl vs).set i (some (valN o.dst v)))[j]? = some (some u) → vs'[j]? = some u) ∧
            PhK P ops s0 (Q .normal) cs cl' vs' sv' σ'.m := by
          cases cs with
          | nil =>
            unfold exPh at hJ
            obtain ⟨vs', sv', D', g⟩ := pass_text _ _ _ _ _ _ (by rw [C.len, D.cls]) (fun o ho d hdd => hdst o ho d hdd) hJ
            exact ⟨vs', sv', ⟨_, D'⟩, fun _ _ _ _ _ _ => trivial, D'.rcd, by unfold PhK; exact g⟩
          | cons p cs =>
            obtain ⟨c2, cl2⟩ := p
            unfold exPh at hJ
            obtain ⟨vs', sv', D', g⟩ := pass_text _ _ _ _ _ _ (by rw [C.len, D.cls]) (fun o ho d hdd => hdst o ho d hdd) hJ
            refine ⟨vs', sv', ⟨_, D'⟩, fun _ _ _ _ _ _ => trivial, D'.rcd, ?_⟩
            unfold PhK
            simpa using g
        obtain ⟨vs', sv', D', _, hrec, hK'⟩ := next
        have hcl' : cl'.length = ops.size := by rw [C.len]; exact hcl
        have hl' : vs'.length = ops.size := by obtain ⟨_, D'⟩ := D'; rw [D'.len]; simp
        have hN' : ∀ j k : Nat, (L.setIfInBounds i true).getD j false = true → cl'[j]? = some k → k = 0 ∨ k = 2 := fun j k hj hjk => by
          obtain ⟨_, D'⟩ := D'
          rcases D'.kind j k hjk with e | e | e | e
          · exact .inl e
          · exfalso
            subst e
            have h1 := C.next j (.inl hjk)
            have hij : i ≠ j := fun e => by subst e; rw [hk] at h1; cases h1
            rw [getD_set_ne false hij] at hj
            have := hN j 1 hj h1
            omega
          · exact .inr e
          · exfalso
            subst e
            have h1 := C.next j (.inr hjk)
            have hij : i ≠ j := fun e => by subst e; rw [hk] at h1; cases h1
            rw [getD_set_ne false hij] at hj
            have := hN j 1 hj h1
            omega
        have hS' : ∀ j : Nat, cl'[j]? = some 0 → (L.setIfInBounds i true).getD j false = true := fun j hj => by
          by_cases hij : i = j
          · subst hij; simp [hlt]
          · rw [getD_set_ne false hij]
            rcases C.been j hj with h1 | h1 | h1
            · exact hS j h1
            · exact absurd h1.symm hij
            · exact h1.ready J.closed ho hall
        have Jold := J.step hd ho hv hi (nx := σ.m.nx) (lv := σ.m.lv) (Nat.le_refl _) (fun _ x => x)
        have hsame : ∀ j u, j ≠ i → L.getD j false = true → vs[j]? = some u → vs'[j]? = some u := fun j u hji hLj hu => by
          have hjl : j < ops.size := by rw [← hl]; exact (List.getElem?_eq_some_iff.1 hu).1
          have hkj := List.getElem?_eq_getElem (l := cl) (i := j) (by omega)
          have hkj' := List.getElem?_eq_getElem (l := cl') (i := j) (by omega)
          have hn := hN j _ hLj hkj
          have hn' := hN' j _ (by rw [getD_set_ne false (Ne.symm hji)]; exact hLj) hkj'
          refine hrec j _ u hkj' hn' ?_
          rw [List.getElem?_set_ne (Ne.symm hji), recOf_get hkj hu, if_neg (by omega)]
        have hme : vs'[i]? = some (valN o.dst v) := hrec i 0 _ C.me' (.inl rfl) (by rw [List.getElem?_set_self (by omega)])
        have hslots : σ'.s = (AS.put ⟨σ.s, σ'.m⟩ o.dst v).s := congrArg AS.s hσ'
        have hne : ∀ t, o.dst ≠ some t → nth σ'.s t = nth σ.s t := fun t ht => by rw [hslots]; exact put_ne ht
        refine ih cs cl' σ'.m vs' sv' _ σ' a' w' hB' D' hK' hN' hS' (count_set hlt hun hc) ⟨Jold.size, ?_, rfl, rfl, Nat.le_refl _, fun _ x => x, Jold.closed, fun j oj u d hj hu hdj hLj => ?_, fun t ht => ?_⟩ hst'
        · rw [hslots, put_len]; exact J.len
        · by_cases hij : j = i
          · subst hij
            rw [ho] at hj
            cases hj
            rw [hme] at hu
            cases hu
            rw [hslots, hdj, put_eq]
            have e1 : d < s0.length := hdo d hdj
            have e2 : d < σ.s.length := by rw [J.len]; exact e1
            simp only at e1 e2 ⊢
            rw [if_pos e2, if_pos e1]
            simp [valN]
          · rw [getD_set_ne false (Ne.symm hij)] at hLj
            have hjl := (Array.getElem?_eq_some_iff.1 hj).1
            have hvj := List.getElem?_eq_getElem (l := vs) (i := j) (by omega)
            have := hsame j _ hij hLj hvj
            rw [hu] at this
            cases this
            rw [hne d (hd.once j i oj o d hij hj ho hdj)]
            exact J.done j oj _ d hj hvj hdj hLj
        · have hti : o.dst ≠ some t := ht i o ho (by simp [hlt])
          rw [hne t hti]
          exact J.rest t (fun j oj hj hLj => ht j oj hj (by
            by_cases hij : i = j
            · subst hij; simp [hlt]
            · rw [getD_set_ne false hij]; exact hLj))

/-- A region that draws its order: the operations that write are c1, c2, ..; the lists tell of each operation what it is in each phase. -/
theorem drawnP {id : Nat} {l : List Oper} {Q : Exit → AS → Prop} {s0 : List AV} {m : AH} (cl : List Nat) (cs : List (Nat × List Nat)) (n : Nat) (hm : P.follows .mixedOrders = true) (hB : drawB l.toArray = true) (hC : phB l.toArray (ancs l) cs cl = true)
    (h2 : (cl.all (fun k => k != 0) && (cl.length == l.length) && l.all fun o => match o.dst with | some d => decide (d < n) | none => true) = true) (hn : s0.length = n)
    (h : exPh P l.toArray l s0 (Q .normal) cs cl (List.replicate cl.length none) m) : AW P E (.region id l.toArray true) Q ⟨s0, m⟩ := by
  refine AW_any hm (drawB_nd hB) fun E a w _ hT hst => ?_
  simp only [Bool.and_eq_true, beq_iff_eq] at h2
  obtain ⟨⟨h0, h2⟩, h3⟩ := h2
  have hdst : ∀ o ∈ l.toArray.toList, ∀ d, o.dst = some d → d < s0.length := fun o ho d hd => by
    have := List.all_eq_true.1 h3 o (by simpa using ho)
    rw [hd] at this
    rw [hn]
    simpa using this
  have hno : ∀ j, (Array.replicate l.toArray.size false).getD j false = true → False := fun j hL => by
    revert hL
    simp only [Array.getD_eq_getD_getElem?, Array.getElem?_replicate]
    split <;> simp
  have first : ∃ vs sv, (∃ rec, PassD P l.toArray l.toArray.toList cl rec [] ⟨s0, m⟩ vs sv) ∧ PhK P l.toArray s0 (Q .normal) cs cl vs sv m := by
    cases cs with
    | nil =>
      unfold exPh at h
      obtain ⟨vs, sv, D, g⟩ := pass_text _ _ _ _ _ _ h2 (fun o ho d hd => hdst o (by simpa using ho) d hd) h
      exact ⟨vs, sv, ⟨_, D⟩, by unfold PhK; exact g⟩
    | cons p cs =>
      obtain ⟨c, cl'⟩ := p
      unfold exPh at h
      obtain ⟨vs, sv, D, g⟩ := pass_text _ _ _ _ _ _ h2 (fun o ho d hd => hdst o (by simpa using ho) d hd) h
      exact ⟨vs, sv, ⟨_, D⟩, by unfold PhK; simpa using g⟩
  obtain ⟨vs, sv, D, hK⟩ := first
  refine phase_ok (E := E) hT (drawB_spec hB) hdst _ cs cl m vs sv _ ⟨s0, m⟩ a _ hC D hK (fun i k hL _ => (hno i hL).elim) (fun i hi => ?_) (Nat.le_trans (List.length_filter_le _ _) (by simp)) ?_ (St.drawn hst)
  · have := List.all_eq_true.1 h0 0 (List.mem_of_getElem? hi)
    simp at this
  · exact ⟨by simp, rfl, rfl, rfl, Nat.le_refl _, fun _ x => x, fun j o hj hL => (hno j hL).elim, fun i o v d _ _ _ hL => (hno i hL).elim, fun t _ => rfl⟩
end

section
variable {P : Program}
@[congr] theorem passP_congr {ops : Array Oper} {K : List (Option AV) → List AV → AS → Prop} {l : List Oper} {cl : List Nat} {rec rec' : List (Option AV)} {sv sv' : List AV} {acc acc' : List (Option AV)} {σ σ' : AS} (h1 : rec = rec') (h2 : sv = sv') (h3 : acc = acc') (h : σ = σ') :
    passP P ops K l cl rec sv acc σ = passP P ops K l cl rec' sv' acc' σ' := by rw [h1, h2, h3, h]
@[congr] theorem exPh_congr {ops : Array Oper} {l : List Oper} {s0 : List AV} {K : AS → Prop} {cs : List (Nat × List Nat)} {cl : List Nat} {rec rec' : List (Option AV)} {m m' : AH} (h1 : rec = rec') (h : m = m') : exPh P ops l s0 K cs cl rec m = exPh P ops l s0 K cs cl rec' m' := by rw [h1, h]
@[congr] theorem kPass_congr {f : List (Option AV) → AS → Prop} {x : Option AV} {acc : List (Option AV)} {dst : Option Nat} {τ τ' : AS} (h : τ = τ') : kPass f x acc dst τ = kPass f x acc dst τ' := by rw [h]
@[congr] theorem kLoud_congr {ops : Array Oper} {c : Nat} {f : List (Option AV) → AH → Prop} {vals vals' : List (Option AV)} {sv sv' : List AV} {τ τ' : AS} (h1 : vals = vals') (h2 : sv = sv') (h : τ = τ') : kLoud P ops c f vals sv τ = kLoud P ops c f vals' sv' τ' := by rw [h1, h2, h]
@[congr] theorem kNext_congr {f : List (Option AV) → AH → Prop} {vals : List (Option AV)} {c : Nat} {dst : Option Nat} {τ τ' : AS} (h : τ = τ') : kNext f vals c dst τ = kNext f vals c dst τ' := by rw [h]
@[congr] theorem kFin_congr {K : AS → Prop} {x x' : List (Option AV)} {y y' : List AV} {τ τ' : AS} (h1 : x = x') (h2 : y = y') (h : τ = τ') : kFin K x y τ = kFin K x' y' τ' := by rw [h1, h2, h]
variable {ops : Array Oper} {K : List (Option AV) → List AV → AS → Prop} {o : Oper} {r : List Oper} {cl : List Nat} {rec acc : List (Option AV)} {sv : List AV} {σ : AS}
theorem passP_0 {v : AV} : passP P ops K (o :: r) (0 :: cl) (some v :: rec) sv acc σ = passP P ops K r cl rec sv (some v :: acc) (σ.put o.dst v) := (rfl)
theorem passP_1 {x : Option AV} : passP P ops K (o :: r) (1 :: cl) (x :: rec) sv acc σ = passP P ops K r cl rec sv (none :: acc) (σ.put o.dst undefA) := (rfl)
theorem passP_3 {x : Option AV} : passP P ops K (o :: r) (3 :: cl) (x :: rec) sv acc σ = passP P ops K r cl rec σ.s (none :: acc) (σ.put o.dst undefA) := (rfl)
theorem passP_2 {x : Option AV} : passP P ops K (o :: r) (2 :: cl) (x :: rec) sv acc σ = exGD P ops o σ (kPass (passP P ops K r cl rec sv) x acc o.dst) := (rfl)
theorem passP_nil : passP P ops K [] cl rec sv acc σ = K acc.reverse sv σ := by cases cl <;> cases rec <;> rfl
theorem kPass_eq {f : List (Option AV) → AS → Prop} {x : Option AV} {dst : Option Nat} : kPass f x acc dst σ = (sameV x (valD dst σ) ∧ f (some (valD dst σ) :: acc) σ) := (rfl)
theorem kNext_eq {f : List (Option AV) → AH → Prop} {vals : List (Option AV)} {c : Nat} {dst : Option Nat} : kNext f vals c dst σ = f (vals.set c (some (valD dst σ))) σ.m := (rfl)
theorem kFin_eq {K : AS → Prop} {x : List (Option AV)} {y : List AV} : kFin K x y σ = (∀ nx lv, σ.m.nx ≤ nx → (∀ j, σ.m.lv j → lv j) → K ⟨σ.s, ⟨σ.m.h, σ.m.o, nx, lv⟩⟩) := (rfl)
theorem kLoud_eq {c : Nat} {f : List (Option AV) → AH → Prop} {vals : List (Option AV)} : kLoud P ops c f vals sv σ = (match ops[c]? with
  | some o => ∀ nx lv, σ.m.nx ≤ nx → (∀ j, σ.m.lv j → lv j) → exG P ops o ⟨sv, ⟨σ.m.h, σ.m.o, nx, lv⟩⟩ (kNext f vals c o.dst)
  | none => False) := (rfl)
theorem exPh_nil {l : List Oper} {s0 : List AV} {K : AS → Prop} {m : AH} : exPh P ops l s0 K [] cl rec m = passP P ops (kFin K) l cl rec [] [] ⟨s0, m⟩ := (rfl)
theorem exPh_cons {l : List Oper} {s0 : List AV} {K : AS → Prop} {m : AH} {c : Nat} {cl' : List Nat} {cs : List (Nat × List Nat)} : exPh P ops l s0 K ((c, cl') :: cs) cl rec m = passP P ops (kLoud P ops c (exPh P ops l s0 K cs cl')) l cl rec [] [] ⟨s0, m⟩ := (rfl)
end
attribute [irreducible] passP exPh
attribute [go_sem] passP_0 passP_1 passP_2 passP_3 passP_nil kPass_eq kNext_eq kFin_eq kLoud_eq exPh_nil exPh_cons sameV valD List.reverse_cons List.reverse_nil List.set_cons_zero List.set_cons_succ List.reverseAux

end Go.AB

/- More on calls that write what they are handed; live marks are below the next one. -/
namespace Go.AB

theorem QCall.lt {P : Program} {f : Nat} {m0 : AH} {as : List AV} {R : AH → AV → Prop} (h : (∀ j, m0.lv j → j < m0.nx) → QCall P f m0 as R) : QCall P f m0 as R := by
  unfold QCall
  intro E G w vs hT hw hg hi hr
  have := h hi.lt
  unfold QCall at this
  exact this E G w vs hT hw hg hi hr

theorem AW_lt {P : Program} {E : Env} {c : Code} {Q : Exit → AS → Prop} {σ : AS} (h : (∀ j, σ.m.lv j → j < σ.m.nx) → AW P E c Q σ) : AW P E c Q σ := by
  unfold AW
  intro hT A a w hA hst
  obtain ⟨G, hi, hs⟩ := hst
  have := h hi.lt
  unfold AW at this
  exact this hT A a w hA ⟨G, hi, hs⟩

theorem QCall.mono {P : Program} {f : Nat} {m0 : AH} {as : List AV} {R R' : AH → AV → Prop} (h : QCall P f m0 as R) (hR : ∀ m r, R m r → R' m r) : QCall P f m0 as R' := by
  unfold QCall at h ⊢
  intro E G w vs hT hw hg hi hr
  refine (h E G w vs hT hw hg hi hr).mono ?_
  rintro e w' ⟨v, r, G', m', h1, h2, h3, h4⟩
  exact ⟨v, r, G', m', h1, h2, h3, hR _ _ h4⟩

/-- A call that writes what it is handed; nothing new of it is taken over. -/
theorem effH {P : Program} {k : Nat} {args : List AV} {σ : AS} {dst : Option Nat} {K : AS → Prop} (ls : List Loc) {as : List AV} {css ds : List (List AV)} {R : AH → AV → Prop}
    (h1 : rnAL (outF ls) args = some as) (h2 : cellsL σ.m ls = some css) (h3 : rnLL (outF ls) css = some ds) (h4 : IdxOk ls) (h5 : QCall P k ⟨[], ds, σ.m.nx, σ.m.lv⟩ as R)
    (hK : ∀ m' r, R m' r → ∃ cs2 r2, rnLL (backF ls none (.own 0 (gnext σ.m 0))) m'.o = some cs2 ∧ cs2.length = ls.length ∧ rnV (backF ls none (.own 0 (gnext σ.m 0))) r = some r2 ∧
      K (AS.put ⟨σ.s, ⟨(σ.m.setAll ls cs2).h, (σ.m.setAll ls cs2).o, m'.nx, m'.lv⟩⟩ dst r2)) : effX P k args σ dst K := by
  unfold effX
  refine .inl ?_
  unfold effK
  refine ⟨ls, as, css, ds, R, h1, h2, h3, h4, h5, fun m' r hr => ?_⟩
  obtain ⟨cs2, r2, k1, k2, k3, k4⟩ := hK m' r hr
  exact ⟨none, 0, [], cs2, r2, k1, k2, (fun k hk => by cases hk), k3, k4⟩

theorem IdxOk.two {l k : Loc} (h : l ≠ k) : IdxOk [l, k] := by
  intro i x hx
  match i, hx with
  | 0, hx => simp at hx; subst hx; simp [idxL]
  | 1, hx => simp at hx; subst hx; simp [idxL, h]

theorem backF_out {ls : List Loc} {ad : Option Loc} {l0 : Loc} {i : Nat} : backF ls ad l0 (.out i) = ls[i]? := (rfl)

end Go.AB

/- Regions that draw their order, with operations that write among them, of which several may come next: a tree of phases. -/
namespace Go.AB

/-- A tree of phases: behind a pass one of several operations may come, each with the classes that hold behind it. -/
inductive PT
  | fin : PT
  | nil : PT
  | alt : Nat → List Nat → PT → PT → PT

def svGet : List (Nat × List AV) → Nat → List AV
  | (i, s) :: r, k => if i = k then s else svGet r k
  | [], _ => []

/-- As passP; the classes from 3 on name the operations that may come next. -/
def passT (P : Program) (ops : Array Oper) (K : List (Option AV) → List (Nat × List AV) → AS → Prop) : List Oper → List Nat → List (Option AV) → List (Nat × List AV) → List (Option AV) → AS → Prop
  | o :: r, k :: cl, x :: rec, sv, acc, σ => match k, x with
    | 0, some v => passT P ops K r cl rec sv (some v :: acc) (σ.put o.dst v)
    | 0, none => False
    | 1, _ => passT P ops K r cl rec sv (none :: acc) (σ.put o.dst undefA)
    | 2, x => exGD P ops o σ (kPass (passT P ops K r cl rec sv) x acc o.dst)
    | k + 3, _ => passT P ops K r cl rec ((k + 3, σ.s) :: sv) (none :: acc) (σ.put o.dst undefA)
  | [], _, _, sv, acc, σ => K acc.reverse sv σ
  | _, _, _, _, _, _ => False

def phT (P : Program) (ops : Array Oper) (l : List Oper) (s0 : List AV) (K : AS → Prop) : PT → Nat → List (Option AV) → List (Nat × List AV) → AS → Prop
  | .fin, _, vals, _, τ => kFin K vals [] τ
  | .nil, _, _, _, _ => True
  | .alt c cl' sub rest, k, vals, sv, τ => kLoud P ops c (fun rec m => passT P ops (phT P ops l s0 K sub 3) l cl' rec [] [] ⟨s0, m⟩) vals (svGet sv k) τ ∧ phT P ops l s0 K rest (k + 1) vals sv τ

def exT (P : Program) (ops : Array Oper) (l : List Oper) (s0 : List AV) (K : AS → Prop) (t : PT) (cl : List Nat) (rec : List (Option AV)) (m : AH) : Prop := passT P ops (phT P ops l s0 K t 3) l cl rec [] [] ⟨s0, m⟩

def recOfT : List Nat → List AV → List (Option AV)
  | k :: cl, v :: vs => (if k = 1 ∨ 3 ≤ k then none else some v) :: recOfT cl vs
  | _, _ => []

theorem recOfT_len : ∀ {cl : List Nat} {vs : List AV}, cl.length = vs.length → (recOfT cl vs).length = vs.length
  | [], [], _ => rfl
  | [], _ :: _, h => by simp at h
  | _ :: _, [], h => by simp at h
  | k :: cl, v :: vs, h => by simp only [recOfT, List.length_cons]; rw [recOfT_len (by simpa using h)]
theorem recOfT_get : ∀ {cl : List Nat} {vs : List AV} {i k : Nat} {v : AV}, cl[i]? = some k → vs[i]? = some v → (recOfT cl vs)[i]? = some (if k = 1 ∨ 3 ≤ k then none else some v)
  | [], _, i, k, v, h, _ => by simp at h
  | _ :: _, [], i, k, v, _, h => by simp at h
  | k0 :: cl, v0 :: vs, 0, k, v, h1, h2 => by simp at h1 h2; subst h1 h2; rfl
  | k0 :: cl, v0 :: vs, i + 1, k, v, h1, h2 => by
    simp only [recOfT, List.getElem?_cons_succ]
    exact recOfT_get (by simpa using h1) (by simpa using h2)

/-- What a pass comes to. -/
structure PassDT (P : Program) (ops : Array Oper) (l : List Oper) (cl : List Nat) (rec : List (Option AV)) (sv0 : List (Nat × List AV)) (σ : AS) (vs : List AV) (sv : List (Nat × List AV)) : Prop where
  len : vs.length = l.length
  cls : cl.length = l.length
  yld : ∀ (i : Nat) (o : Oper) (v : AV), l[i]? = some o → vs[i]? = some v → cl[i]? = some 2 → YieldsA P ops o v (puts σ (l.take i) (vs.take i))
  rcd : ∀ (i k : Nat) (v : AV), cl[i]? = some k → k = 0 ∨ k = 2 → rec[i]? = some (some v) → vs[i]? = some v
  svs : ∀ (i k : Nat), 3 ≤ k → cl[i]? = some k → (∀ j : Nat, i < j → cl[j]? ≠ some k) → svGet sv k = (puts σ (l.take i) (vs.take i)).s
  sv0 : ∀ (k : Nat), 3 ≤ k → (∀ i : Nat, cl[i]? ≠ some k) → svGet sv k = svGet sv0 k

theorem passT_text {P : Program} {ops : Array Oper} {K : List (Option AV) → List (Nat × List AV) → AS → Prop} : ∀ (l : List Oper) (cl : List Nat) (rec : List (Option AV)) (sv : List (Nat × List AV)) (acc : List (Option AV)) (σ : AS),
    cl.length = l.length → (∀ o ∈ l, ∀ d, o.dst = some d → d < σ.s.length) → passT P ops K l cl rec sv acc σ →
    ∃ vs sv', PassDT P ops l cl rec sv σ vs sv' ∧ K (acc.reverse ++ recOfT cl vs) sv' (puts σ l vs)
  | [], cl, rec, sv, acc, σ, hcl, _, h => by
    cases cl with
    | cons _ _ => simp at hcl
    | nil => exact ⟨[], sv, ⟨rfl, rfl, by simp, by simp, by simp, fun _ _ _ => rfl⟩, by
      have h' : K acc.reverse sv σ := by cases rec <;> exact h
      simpa [recOfT, puts] using h'⟩
  | o :: r, [], rec, sv, acc, σ, hcl, _, h => by simp at hcl
  | o :: r, k :: cl, [], sv, acc, σ, _, _, h => by simp [passT] at h
  | o :: r, k :: cl, x :: rec, sv, acc, σ, hcl, hd, h => by
    have hcl' : cl.length = r.length := by simpa using hcl
    have hlen : ∀ v, ∀ o' ∈ r, ∀ d, o'.dst = some d → d < (σ.put o.dst v).s.length := fun v o' ho' d hdd => by
      rw [put_len]; exact hd o' (List.mem_cons_of_mem _ ho') d hdd
    have fin : ∀ (v : AV) (sv1 : List (Nat × List AV)) (y : Option AV), (y = if k = 1 ∨ 3 ≤ k then none else some v) → passT P ops K r cl rec sv1 (y :: acc) (σ.put o.dst v) → (k = 2 → YieldsA P ops o v σ) →
        (k = 0 ∨ k = 2 → ∀ u, x = some u → v = u) → (3 ≤ k → sv1 = (k, σ.s) :: sv) → (k < 3 → sv1 = sv) →
        ∃ vs sv', PassDT P ops (o :: r) (k :: cl) (x :: rec) sv σ vs sv' ∧ K (acc.reverse ++ recOfT (k :: cl) vs) sv' (puts σ (o :: r) vs) := by
      intro v sv1 y hy hp hyl hrec hs3 hs
      obtain ⟨vs, sv', D, g2⟩ := passT_text r cl rec sv1 (y :: acc) (σ.put o.dst v) hcl' (hlen v) hp
      refine ⟨v :: vs, sv', ⟨by simp [D.len], by simp [hcl'], fun i o' v' ho' hv' hc' => ?_, fun i k' v' hc' hk' hr' => ?_, fun i k' hk3 hk' hl' => ?_, fun k' hk3 hn => ?_⟩, ?_⟩
      · cases i with
        | zero =>
          simp at ho' hv' hc'
          subst ho' hv'
          simpa [puts] using hyl hc'
        | succ i =>
          simp only [List.take_succ_cons]
          unfold puts
          exact D.yld i o' v' (by simpa using ho') (by simpa using hv') (by simpa using hc')
      · cases i with
        | zero =>
          simp at hc' hr' ⊢
          subst hc'
          exact hrec hk' v' hr'
        | succ i => simpa using D.rcd i k' v' (by simpa using hc') hk' (by simpa using hr')
      · cases i with
        | zero =>
          have e : k = k' := by simpa using hk'
          subst e
          rw [D.sv0 k hk3 (fun i => by have := hl' (i + 1) (by omega); simpa using this), hs3 hk3]
          simp [svGet, puts]
        | succ i =>
          rw [D.svs i k' hk3 (by simpa using hk') (fun j hj => by have := hl' (j + 1) (by omega); simpa using this)]
          simp only [List.take_succ_cons, puts]
      · have h0 : k ≠ k' := fun e => by have := hn 0; simp at this; exact this e
        rw [D.sv0 k' hk3 (fun i => by have := hn (i + 1); simpa using this)]
        by_cases hk : 3 ≤ k
        · rw [hs3 hk]; simp [svGet, h0]
        · rw [hs (by omega)]
      · unfold puts
        simp only [recOfT]
        rw [← hy]
        simpa using g2
    unfold passT at h
    split at h
    · rename_i v
      exact fin v _ (some v) (by simp) h (by simp) (fun _ u hu => by cases hu; rfl) (fun e => by omega) (fun _ => rfl)
    · exact h.elim
    · exact fin undefA _ none (by simp) h (by simp) (fun e => by omega) (fun e => by omega) (fun _ => rfl)
    · obtain ⟨v, ⟨h1, h2⟩, h3⟩ := exGD_local h
      have ev : valD o.dst (σ.put o.dst v) = valN o.dst v := valD_put (fun d hdd => hd o (List.mem_cons_self ..) d hdd)
      rw [ev] at h1 h2
      refine fin (valN o.dst v) _ (some (valN o.dst v)) (by simp) (by rw [put_valN]; exact h2) (fun _ => h3.valN) (fun _ u hu => ?_) (fun e => by omega) (fun _ => rfl)
      cases hu
      exact h1
    · rename_i k
      exact fin undefA _ none (by simp) h (fun e => by omega) (fun e => by omega) (fun _ => rfl) (fun e => by omega)

def phBT (ops : Array Oper) (an : List (List Nat)) : PT → Nat → List Nat → Bool
  | .fin, _, cl => cl.all fun k => k == 0 || k == 2
  | .nil, k, cl => decide (3 < k) && (cl.all fun q => decide (q < k)) && (List.range cl.length).all fun i => cl[i]? != some 1 || (List.range cl.length).any fun j => (match cl[j]? with | some q => decide (3 ≤ q) | none => false) && (an.getD i []).contains j
  | .alt c cl' sub rest, k, cl => cl[c]? == some k && cl'[c]? == some 0 && cl'.length == cl.length && (match ops[c]? with | some o => loudB o.op | none => false) &&
    ((List.range cl.length).all fun i => (cl[i]? != some k || i == c) && (cl'[i]? != some 0 || cl[i]? == some 0 || i == c || (an.getD c []).contains i) &&
      (match cl'[i]?, cl[i]? with | some q, some r => (q == 0 || q == 2) || r == 1 || (decide (3 ≤ r) && i != c) | _, _ => false)) && phBT ops an sub 3 cl' && phBT ops an rest (k + 1) cl

structure PhOkT (ops : Array Oper) (c k : Nat) (cl cl' : List Nat) : Prop where
  me : cl[c]? = some k
  me' : cl'[c]? = some 0
  len : cl'.length = cl.length
  loud : ∀ o, ops[c]? = some o → loudB o.op = true
  only : ∀ i : Nat, cl[i]? = some k → i = c
  been : ∀ i : Nat, cl'[i]? = some 0 → cl[i]? = some 0 ∨ i = c ∨ Anc ops c i
  next : ∀ i q : Nat, cl'[i]? = some q → q = 0 ∨ q = 2 ∨ ∃ r, cl[i]? = some r ∧ (r = 1 ∨ (3 ≤ r ∧ i ≠ c))

theorem anc_of {ops : Array Oper} (j i : Nat) (h : ((ancs ops.toList).getD j []).contains i = true) : Anc ops j i :=
  ancs_go ops.toList [] [] (by simp) rfl (fun j i hi => by simp at hi) j i (List.contains_iff_mem.1 h)

theorem phBT_spec {ops : Array Oper} {c k : Nat} {cl cl' : List Nat} {sub rest : PT} (h : phBT ops (ancs ops.toList) (.alt c cl' sub rest) k cl = true) : PhOkT ops c k cl cl' ∧ phBT ops (ancs ops.toList) sub 3 cl' = true ∧ phBT ops (ancs ops.toList) rest (k + 1) cl = true := by
  simp only [phBT, Bool.and_eq_true, beq_iff_eq] at h
  obtain ⟨⟨⟨⟨⟨⟨h1, h2⟩, h3⟩, h4⟩, h5⟩, h6⟩, h7⟩ := h
  have key : ∀ i : Nat, i < cl.length → (cl[i]? ≠ some k ∨ i = c) ∧ (cl'[i]? ≠ some 0 ∨ cl[i]? = some 0 ∨ i = c ∨ Anc ops c i) ∧ (∀ q, cl'[i]? = some q → q = 0 ∨ q = 2 ∨ ∃ r, cl[i]? = some r ∧ (r = 1 ∨ (3 ≤ r ∧ i ≠ c))) := fun i hi => by
    have := List.all_eq_true.1 h5 i (List.mem_range.2 hi)
    simp only [Bool.and_eq_true, Bool.or_eq_true, bne_iff_ne, beq_iff_eq] at this
    obtain ⟨⟨k2, k3⟩, k4⟩ := this
    refine ⟨k2, ?_, fun q hq => ?_⟩
    · rcases k3 with ((k3 | k3) | k3) | k3
      · exact .inl k3
      · exact .inr (.inl k3)
      · exact .inr (.inr (.inl k3))
      · exact .inr (.inr (.inr (anc_of c i k3)))
    · have hr := List.getElem?_eq_getElem (l := cl) (i := i) hi
      rw [hq, hr] at k4
      simp only [Bool.or_eq_true, Bool.and_eq_true, beq_iff_eq, decide_eq_true_eq, bne_iff_ne] at k4
      rcases k4 with ((k4 | k4) | k4) | k4
      · exact .inl k4
      · exact .inr (.inl k4)
      · exact .inr (.inr ⟨_, hr, .inl k4⟩)
      · exact .inr (.inr ⟨_, hr, .inr k4⟩)
  have lt : ∀ {i q : Nat}, cl[i]? = some q → i < cl.length := fun h => (List.getElem?_eq_some_iff.1 h).1
  have lt' : ∀ {i q : Nat}, cl'[i]? = some q → i < cl.length := fun h => by rw [← h3]; exact (List.getElem?_eq_some_iff.1 h).1
  exact ⟨⟨h1, h2, h3, fun o ho => by simpa [ho] using h4, fun i hi => ((key i (lt hi)).1).resolve_left (fun e => e hi),
    fun i hi => ((key i (lt' hi)).2.1).resolve_left (fun e => e hi), fun i q hi => (key i (lt' hi)).2.2 q hi⟩, h6, h7⟩

theorem late_of {ops : Array Oper} : ∀ {t : PT} {k : Nat} {cl : List Nat} {i : Nat}, phBT ops (ancs ops.toList) t k cl = true → cl[i]? = some 1 → ∃ j q, cl[j]? = some q ∧ 3 ≤ q ∧ Anc ops i j
  | .fin, k, cl, i, h, hi => by
    have := List.all_eq_true.1 h 1 (List.mem_of_getElem? hi)
    simp at this
  | .nil, k, cl, i, h, hi => by
    simp only [phBT, Bool.and_eq_true] at h
    have hlt : i < cl.length := (List.getElem?_eq_some_iff.1 hi).1
    have := List.all_eq_true.1 h.2 i (List.mem_range.2 hlt)
    simp only [hi, bne_self_eq_false, Bool.false_or] at this
    obtain ⟨j, hj, h1⟩ := List.any_eq_true.1 this
    have hjl := List.mem_range.1 hj
    have hr := List.getElem?_eq_getElem (l := cl) (i := j) hjl
    rw [hr] at h1
    simp only [Bool.and_eq_true, decide_eq_true_eq] at h1
    exact ⟨j, _, hr, h1.1, anc_of i j h1.2⟩
  | .alt c cl' sub rest, k, cl, i, h, hi => late_of (phBT_spec h).2.2 hi

theorem alts_of {P : Program} {ops : Array Oper} {l : List Oper} {s0 : List AV} {K : AS → Prop} : ∀ {t : PT} {k : Nat} {cl : List Nat} {i q : Nat}, phBT ops (ancs ops.toList) t k cl = true → cl[i]? = some q → 3 ≤ q → k ≤ q →
    ∃ cl' sub, PhOkT ops i q cl cl' ∧ phBT ops (ancs ops.toList) sub 3 cl' = true ∧ ∀ vals sv τ, phT P ops l s0 K t k vals sv τ → kLoud P ops i (exT P ops l s0 K sub cl') vals (svGet sv q) τ
  | .fin, k, cl, i, q, h, hi, h3, hk => by
    have := List.all_eq_true.1 h q (List.mem_of_getElem? hi)
    simp at this
    omega
  | .nil, k, cl, i, q, h, hi, h3, hk => by
    simp only [phBT, Bool.and_eq_true] at h
    have := List.all_eq_true.1 h.1.2 q (List.mem_of_getElem? hi)
    simp at this
    omega
  | .alt c cl' sub rest, k, cl, i, q, h, hi, h3, hk => by
    obtain ⟨C, h1, h2⟩ := phBT_spec h
    by_cases e : q = k
    · subst e
      have := C.only i hi
      subst this
      exact ⟨cl', sub, C, h1, fun vals sv τ g => g.1⟩
    · obtain ⟨cl2, sub2, C2, g1, g2⟩ := alts_of (P := P) (l := l) (s0 := s0) (K := K) (k := k + 1) h2 hi h3 (by omega)
      exact ⟨cl2, sub2, C2, g1, fun vals sv τ g => g2 vals sv τ g.2⟩

section
variable {P : Program} {E : Env} {ops : Array Oper}

theorem phaseT_ok (hT : TabsOk P E) (hd : DrawOk ops) {s0 : List AV} (hdst : ∀ o ∈ ops.toList, ∀ d, o.dst = some d → d < s0.length) {Q : Exit → AS → Prop} :
    ∀ (fuel : Nat) (t : PT) (cl : List Nat) (m : AH) (vs : List AV) (sv : List (Nat × List AV)) (L : Array Bool) (σ : AS) (a : Act) (w : World), phBT ops (ancs ops.toList) t 3 cl = true →
      (∃ rec, PassDT P ops ops.toList cl rec [] ⟨s0, m⟩ vs sv) →
      phT P ops ops.toList s0 (Q .normal) t 3 (recOfT cl vs) sv (puts ⟨s0, m⟩ ops.toList vs) →
      (∀ i k : Nat, L.getD i false = true → cl[i]? = some k → k = 0 ∨ k = 2) → (∀ i : Nat, cl[i]? = some 0 → L.getD i false = true) →
      (L.toList.filter (fun b => !b)).length ≤ fuel → JL ops vs ⟨s0, m⟩ L σ → St E σ a w → wpAny P .any ops (Lift0 E Q) fuel L a w := by
  have fin : ∀ (t : PT) (cl : List Nat) (m : AH) (vs : List AV) (sv : List (Nat × List AV)) (L : Array Bool) (σ : AS) (a : Act) (w : World), phBT ops (ancs ops.toList) t 3 cl = true →
      (∃ rec, PassDT P ops ops.toList cl rec [] ⟨s0, m⟩ vs sv) →
      phT P ops ops.toList s0 (Q .normal) t 3 (recOfT cl vs) sv (puts ⟨s0, m⟩ ops.toList vs) →
      (∀ i k : Nat, L.getD i false = true → cl[i]? = some k → k = 0 ∨ k = 2) → JL ops vs ⟨s0, m⟩ L σ → St E σ a w → Region.ready .any ops L = [] → Lift0 E Q .normal a w := by
    intro t cl m vs sv L σ a w hB ⟨rec, D⟩ hK hN J hst hr
    have hl : vs.length = ops.size := by rw [D.len]; simp
    have nodone : ∀ (i q : Nat), cl[i]? = some q → q = 0 ∨ q = 2 := fun i q hi => by
      have hc : i < ops.size := by
        have := (List.getElem?_eq_some_iff.1 hi).1
        have := D.cls
        simp at this
        omega
      exact hN i q (ready_nil hd J.size hr i hc) hi
    cases t with
    | alt c cl' sub rest =>
      have := nodone c 3 (phBT_spec hB).1.me
      omega
    | nil =>
      simp [phBT] at hB
    | fin =>
      refine ⟨σ, hst, ?_⟩
      have h1 := J.final hd hl hr
      have := hK σ.m.nx σ.m.lv (by rw [puts_m]; exact J.nx) (by rw [puts_m]; exact J.lv)
      rw [← h1, puts_m, ← J.h, ← J.o] at this
      exact this
  intro fuel
  induction fuel with
  | zero =>
    intro t cl m vs sv L σ a w hB D hK hN hS hc J hst
    have hr : Region.ready .any ops L = [] := by
      apply List.eq_nil_iff_forall_not_mem.2
      intro i hi
      obtain ⟨h1, h2⟩ := undone (mem_ready.1 hi).1
      rw [none_left h2 hc] at h1; cases h1
    exact ⟨hr, fin t cl m vs sv L σ a w hB D hK hN J hst hr⟩
  | succ fuel ih =>
    intro t cl m vs sv L σ a w hB D0 hK hN hS hc J hst
    refine ⟨fun hr => fin t cl m vs sv L σ a w hB D0 hK hN J hst hr, fun i hi => ?_⟩
    obtain ⟨rec, D⟩ := D0
    have hl : vs.length = ops.size := by rw [D.len]; simp
    have hcl : cl.length = ops.size := by rw [D.cls]; simp
    obtain ⟨hun, o, ho, hall⟩ := mem_ready.1 hi
    obtain ⟨hun', hlt⟩ := undone hun
    have hilt := (Array.getElem?_eq_some_iff.1 ho).1
    have hv := List.getElem?_eq_getElem (l := vs) (i := i) (by omega)
    have hk := List.getElem?_eq_getElem (l := cl) (i := i) (by omega)
    have ag := J.agree hd hl ho hi
    have hol : ops.toList[i]? = some o := by simpa using ho
    have hquiet : cl[i]? = some 2 → wpOp P ops (Lift0 E Q) i (fun a' w' => wpAny P .any ops (Lift0 E Q) fuel (L.setIfInBounds i true) a' w') a w := by
      intro h2
      have key := D.yld i o _ hol hv h2 σ ag (fun τ => JL ops vs ⟨s0, m⟩ (L.setIfInBounds i true) τ) (fun nx lv g1 g2 => J.step hd ho hv hi g1 g2)
      refine wpOp_mono ?_ (exG_ok hT ho key hst)
      rintro a' w' ⟨σ', hst', J'⟩
      have hN' : ∀ j k : Nat, (L.setIfInBounds i true).getD j false = true → cl[j]? = some k → k = 0 ∨ k = 2 := fun j k hj hjk => by
        by_cases hij : i = j
        · subst hij
          rw [h2] at hjk
          cases hjk
          exact .inr rfl
        · rw [getD_set_ne false hij] at hj
          exact hN j k hj hjk
      have hS' : ∀ j : Nat, cl[j]? = some 0 → (L.setIfInBounds i true).getD j false = true := fun j hj => by
        by_cases hij : i = j
        · subst hij; rw [h2] at hj; cases hj
        · rw [getD_set_ne false hij]; exact hS j hj
      rcases J' with J' | J'
      · exact ih t cl m vs sv _ σ' a' w' hB ⟨rec, D⟩ hK hN' hS' (count_set hlt hun hc) J' hst'
      · exact ih t cl m vs sv _ _ a' w' hB ⟨rec, D⟩ hK hN' hS' (count_set hlt hun hc) J' (hst'.erAt o.dst)
    have hkind : cl[i]'(by omega) = 0 ∨ cl[i]'(by omega) = 1 ∨ cl[i]'(by omega) = 2 ∨ 3 ≤ cl[i]'(by omega) := by omega
    rcases hkind with h0 | h1 | h2 | h3
    · rw [h0] at hk
      rw [hS i hk] at hun'
      cases hun'
    · rw [h1] at hk
      exfalso
      obtain ⟨j, q, g1, g2, g3⟩ := late_of hB hk
      have := hN j q (g3.ready J.closed ho hall) g1
      omega
    · rw [h2] at hk
      exact hquiet hk
    · obtain ⟨cl', sub, C, hB', g⟩ := alts_of (P := P) (l := ops.toList) (s0 := s0) (K := Q .normal) hB hk h3 h3
      have hK := g _ _ _ hK
      · skip
        unfold kLoud at hK
        simp only [ho] at hK
        have hK := hK σ.m.nx σ.m.lv (by rw [puts_m]; exact J.nx) (by rw [puts_m]; exact J.lv)
        simp only [puts_m] at hK
        have em : (⟨m.h, m.o, σ.m.nx, σ.m.lv⟩ : AH) = σ.m := by
          have h1 := J.h
          have h2 := J.o
          simp only at h1 h2
          rw [← h1, ← h2]
        rw [em] at hK
        have hsv := D.svs i _ h3 hk (fun j hj e => by have := C.only j e; omega)
        generalize svGet sv (cl[i]'(by omega)) = sv at hsv hK
        have hsl : sv.length = s0.length := by rw [hsv, puts_len]
        have hdo : ∀ d, o.dst = some d → d < s0.length := hdst o (List.mem_of_getElem? hol)
        have ag' : Agree ops o ⟨sv, σ.m⟩ ⟨σ.s, σ.m⟩ := ⟨fun t ht => by rw [hsv]; exact ag.s t ht, rfl, rfl⟩
        have key := loud_g (P := P) (J := fun m' v => exT P ops ops.toList s0 (Q .normal) sub cl' ((recOfT cl vs).set i (some v)) m') (C.loud o ho) ag' (fun d hdd => by rw [hsl]; exact hdo d hdd) hK
        refine wpOp_mono ?_ (exG_ok hT ho key hst)
        rintro a' w' ⟨σ', hst', v, hσ', hJ⟩
        have hrl : (recOfT cl vs).length = ops.size := by rw [recOfT_len (by omega)]; exact hl
        obtain ⟨vs', sv', D', hK'⟩ := passT_text _ _ _ _ _ _ (by rw [C.len, D.cls]) (fun o ho d hdd => hdst o ho d hdd) hJ
        have hrec := D'.rcd
        simp only [List.reverse_nil, List.nil_append] at hK'
        have hcl' : cl'.length = ops.size := by rw [C.len]; exact hcl
        have hl' : vs'.length = ops.size := by rw [D'.len]; simp
        have hN' : ∀ j k : Nat, (L.setIfInBounds i true).getD j false = true → cl'[j]? = some k → k = 0 ∨ k = 2 := fun j k hj hjk => by
          rcases C.next j k hjk with e | e | ⟨r, h1, h2⟩
          · exact .inl e
          · exact .inr e
          · exfalso
            have hij : i ≠ j := fun e => by
              subst e
              rcases h2 with h2 | h2
              · rw [hk] at h1; cases h1; omega
              · exact h2.2 rfl
            rw [getD_set_ne false hij] at hj
            have := hN j r hj h1
            omega
        have hS' : ∀ j : Nat, cl'[j]? = some 0 → (L.setIfInBounds i true).getD j false = true := fun j hj => by
          by_cases hij : i = j
          · subst hij; simp [hlt]
          · rw [getD_set_ne false hij]
            rcases C.been j hj with h1 | h1 | h1
            · exact hS j h1
            · exact absurd h1.symm hij
            · exact h1.ready J.closed ho hall
        have Jold := J.step hd ho hv hi (nx := σ.m.nx) (lv := σ.m.lv) (Nat.le_refl _) (fun _ x => x)
        have hsame : ∀ j u, j ≠ i → L.getD j false = true → vs[j]? = some u → vs'[j]? = some u := fun j u hji hLj hu => by
          have hjl : j < ops.size := by rw [← hl]; exact (List.getElem?_eq_some_iff.1 hu).1
          have hkj := List.getElem?_eq_getElem (l := cl) (i := j) (by omega)
          have hkj' := List.getElem?_eq_getElem (l := cl') (i := j) (by omega)
          have hn := hN j _ hLj hkj
          have hn' := hN' j _ (by rw [getD_set_ne false (Ne.symm hji)]; exact hLj) hkj'
          refine hrec j _ u hkj' hn' ?_
          rw [List.getElem?_set_ne (Ne.symm hji), recOfT_get hkj hu, if_neg (by omega)]
        have hme : vs'[i]? = some (valN o.dst v) := hrec i 0 _ C.me' (.inl rfl) (by rw [List.getElem?_set_self (by omega)])
        have hslots : σ'.s = (AS.put ⟨σ.s, σ'.m⟩ o.dst v).s := congrArg AS.s hσ'
        have hne : ∀ t, o.dst ≠ some t → nth σ'.s t = nth σ.s t := fun t ht => by rw [hslots]; exact put_ne ht
        refine ih sub cl' σ'.m vs' sv' _ σ' a' w' hB' ⟨_, D'⟩ hK' hN' hS' (count_set hlt hun hc) ⟨Jold.size, ?_, rfl, rfl, Nat.le_refl _, fun _ x => x, Jold.closed, fun j oj u d hj hu hdj hLj => ?_, fun t ht => ?_⟩ hst'
        · rw [hslots, put_len]; exact J.len
        · by_cases hij : j = i
          · subst hij
            rw [ho] at hj
            cases hj
            rw [hme] at hu
            cases hu
            rw [hslots, hdj, put_eq]
            have e1 : d < s0.length := hdo d hdj
            have e2 : d < σ.s.length := by rw [J.len]; exact e1
            simp only at e1 e2 ⊢
            rw [if_pos e2, if_pos e1]
            simp [valN]
          · rw [getD_set_ne false (Ne.symm hij)] at hLj
            have hjl := (Array.getElem?_eq_some_iff.1 hj).1
            have hvj := List.getElem?_eq_getElem (l := vs) (i := j) (by omega)
            have := hsame j _ hij hLj hvj
            rw [hu] at this
            cases this
            rw [hne d (hd.once j i oj o d hij hj ho hdj)]
            exact J.done j oj _ d hj hvj hdj hLj
        · have hti : o.dst ≠ some t := ht i o ho (by simp [hlt])
          rw [hne t hti]
          exact J.rest t (fun j oj hj hLj => ht j oj hj (by
            by_cases hij : i = j
            · subst hij; simp [hlt]
            · rw [getD_set_ne false hij]; exact hLj))

/-- A region that draws its order, by a tree of phases. -/
theorem drawnT {id : Nat} {l : List Oper} {Q : Exit → AS → Prop} {s0 : List AV} {m : AH} (cl : List Nat) (t : PT) (n : Nat) (hm : P.follows .mixedOrders = true) (hB : drawB l.toArray = true) (hC : phBT l.toArray (ancs l) t 3 cl = true)
    (h2 : (cl.all (fun k => k != 0) && (cl.length == l.length) && l.all fun o => match o.dst with | some d => decide (d < n) | none => true) = true) (hn : s0.length = n)
    (h : exT P l.toArray l s0 (Q .normal) t cl (List.replicate cl.length none) m) : AW P E (.region id l.toArray true) Q ⟨s0, m⟩ := by
  refine AW_any hm (drawB_nd hB) fun E a w _ hT hst => ?_
  simp only [Bool.and_eq_true, beq_iff_eq] at h2
  obtain ⟨⟨h0, h2⟩, h3⟩ := h2
  have hdst : ∀ o ∈ l.toArray.toList, ∀ d, o.dst = some d → d < s0.length := fun o ho d hd => by
    have := List.all_eq_true.1 h3 o (by simpa using ho)
    rw [hd] at this
    rw [hn]
    simpa using this
  have hno : ∀ j, (Array.replicate l.toArray.size false).getD j false = true → False := fun j hL => by
    revert hL
    simp only [Array.getD_eq_getD_getElem?, Array.getElem?_replicate]
    split <;> simp
  obtain ⟨vs, sv, D, hK⟩ := passT_text _ _ _ _ _ _ h2 (fun o ho d hd => hdst o (by simpa using ho) d hd) h
  simp only [List.reverse_nil, List.nil_append] at hK
  refine phaseT_ok (E := E) hT (drawB_spec hB) hdst _ t cl m vs sv _ ⟨s0, m⟩ a _ hC ⟨_, D⟩ hK (fun i k hL _ => (hno i hL).elim) (fun i hi => ?_) (Nat.le_trans (List.length_filter_le _ _) (by simp)) ?_ (St.drawn hst)
  · have := List.all_eq_true.1 h0 0 (List.mem_of_getElem? hi)
    simp at this
  · exact ⟨by simp, rfl, rfl, rfl, Nat.le_refl _, fun _ x => x, fun j o hj hL => (hno j hL).elim, fun i o v d _ _ _ hL => (hno i hL).elim, fun t _ => rfl⟩
end

section
variable {P : Program}
@[congr] theorem passT_congr {ops : Array Oper} {K : List (Option AV) → List (Nat × List AV) → AS → Prop} {l : List Oper} {cl : List Nat} {rec rec' : List (Option AV)} {sv sv' : List (Nat × List AV)} {acc acc' : List (Option AV)} {σ σ' : AS} (h1 : rec = rec') (h2 : sv = sv') (h3 : acc = acc') (h : σ = σ') :
    passT P ops K l cl rec sv acc σ = passT P ops K l cl rec' sv' acc' σ' := by rw [h1, h2, h3, h]
@[congr] theorem exT_congr {ops : Array Oper} {l : List Oper} {s0 : List AV} {K : AS → Prop} {t : PT} {cl : List Nat} {rec rec' : List (Option AV)} {m m' : AH} (h1 : rec = rec') (h : m = m') : exT P ops l s0 K t cl rec m = exT P ops l s0 K t cl rec' m' := by rw [h1, h]
@[congr] theorem phT_congr {ops : Array Oper} {l : List Oper} {s0 : List AV} {K : AS → Prop} {t : PT} {k : Nat} {x x' : List (Option AV)} {y y' : List (Nat × List AV)} {τ τ' : AS} (h1 : x = x') (h2 : y = y') (h : τ = τ') : phT P ops l s0 K t k x y τ = phT P ops l s0 K t k x' y' τ' := by rw [h1, h2, h]
variable {ops : Array Oper} {K : List (Option AV) → List (Nat × List AV) → AS → Prop} {o : Oper} {r : List Oper} {cl : List Nat} {rec acc : List (Option AV)} {sv : List (Nat × List AV)} {σ : AS}
theorem passT_0 {v : AV} : passT P ops K (o :: r) (0 :: cl) (some v :: rec) sv acc σ = passT P ops K r cl rec sv (some v :: acc) (σ.put o.dst v) := (rfl)
theorem passT_1 {x : Option AV} : passT P ops K (o :: r) (1 :: cl) (x :: rec) sv acc σ = passT P ops K r cl rec sv (none :: acc) (σ.put o.dst undefA) := by cases x <;> rfl
theorem passT_2 {x : Option AV} : passT P ops K (o :: r) (2 :: cl) (x :: rec) sv acc σ = exGD P ops o σ (kPass (passT P ops K r cl rec sv) x acc o.dst) := by cases x <;> rfl
theorem passT_3 {x : Option AV} : passT P ops K (o :: r) (3 :: cl) (x :: rec) sv acc σ = passT P ops K r cl rec ((3, σ.s) :: sv) (none :: acc) (σ.put o.dst undefA) := by cases x <;> rfl
theorem passT_4 {x : Option AV} : passT P ops K (o :: r) (4 :: cl) (x :: rec) sv acc σ = passT P ops K r cl rec ((4, σ.s) :: sv) (none :: acc) (σ.put o.dst undefA) := by cases x <;> rfl
theorem passT_5 {x : Option AV} : passT P ops K (o :: r) (5 :: cl) (x :: rec) sv acc σ = passT P ops K r cl rec ((5, σ.s) :: sv) (none :: acc) (σ.put o.dst undefA) := by cases x <;> rfl
theorem passT_nil : passT P ops K [] cl rec sv acc σ = K acc.reverse sv σ := by cases cl <;> cases rec <;> rfl
theorem exT_eq {l : List Oper} {s0 : List AV} {K : AS → Prop} {t : PT} {m : AH} : exT P ops l s0 K t cl rec m = passT P ops (phT P ops l s0 K t 3) l cl rec [] [] ⟨s0, m⟩ := (rfl)
theorem phT_fin {l : List Oper} {s0 : List AV} {K : AS → Prop} {k : Nat} : phT P ops l s0 K .fin k rec sv σ = kFin K rec [] σ := (rfl)
theorem phT_nil {l : List Oper} {s0 : List AV} {K : AS → Prop} {k : Nat} : phT P ops l s0 K .nil k rec sv σ = True := (rfl)
theorem phT_alt {l : List Oper} {s0 : List AV} {K : AS → Prop} {k c : Nat} {cl' : List Nat} {sub rest : PT} : phT P ops l s0 K (.alt c cl' sub rest) k rec sv σ = (kLoud P ops c (exT P ops l s0 K sub cl') rec (svGet sv k) σ ∧ phT P ops l s0 K rest (k + 1) rec sv σ) := (rfl)
theorem svGet_3 {s : List AV} {r : List (Nat × List AV)} : svGet ((3, s) :: r) 3 = s := (rfl)
theorem svGet_4 {s : List AV} {r : List (Nat × List AV)} : svGet ((4, s) :: r) 4 = s := (rfl)
theorem svGet_5 {s : List AV} {r : List (Nat × List AV)} : svGet ((5, s) :: r) 5 = s := (rfl)
theorem svGet_43 {s : List AV} {r : List (Nat × List AV)} : svGet ((4, s) :: r) 3 = svGet r 3 := (rfl)
theorem svGet_34 {s : List AV} {r : List (Nat × List AV)} : svGet ((3, s) :: r) 4 = svGet r 4 := (rfl)
theorem svGet_53 {s : List AV} {r : List (Nat × List AV)} : svGet ((5, s) :: r) 3 = svGet r 3 := (rfl)
theorem svGet_54 {s : List AV} {r : List (Nat × List AV)} : svGet ((5, s) :: r) 4 = svGet r 4 := (rfl)
theorem svGet_35 {s : List AV} {r : List (Nat × List AV)} : svGet ((3, s) :: r) 5 = svGet r 5 := (rfl)
theorem svGet_45 {s : List AV} {r : List (Nat × List AV)} : svGet ((4, s) :: r) 5 = svGet r 5 := (rfl)
end
attribute [irreducible] passT exT phT svGet
attribute [go_sem] passT_0 passT_1 passT_2 passT_3 passT_4 passT_5 passT_nil exT_eq phT_fin phT_nil phT_alt svGet_3 svGet_4 svGet_5 svGet_43 svGet_34 svGet_53 svGet_54 svGet_35 svGet_45

end Go.AB

/- Loops whose continuation is kept out of the simplifier's sight. -/
namespace Go.AB

theorem AW_loopH {P : Program} {E : Env} {c : Code} {Q : Exit → AS → Prop} {s0 : List AV} {m0 : AH} {α : Type} (W : List Nat) (J : α → (Nat → AV) → AH → Prop) (μ : α → Nat) (x0 : α) (h0 : J x0 (nth s0) m0)
    (round : ∀ x ρ m, J x ρ m → ∀ Q' : Exit → AS → Prop, (∀ σ, Q' .normal σ = LoopEnd s0 W J μ x σ) → (∀ σ, Q' .ret σ = Q .ret σ) → (∀ id σ, Q' (.exit id) σ = Q (.exit id) σ) → exC P E c ⟨mask s0 W ρ, m⟩ Q') : AW P E (.loop c) Q ⟨s0, m0⟩ :=
  AW_loopS W J μ x0 h0 fun x ρ m hJ => round x ρ m hJ (thenQ (LoopEnd s0 W J μ x) Q) (fun _ => rfl) (fun _ => rfl) (fun _ _ => rfl)

end Go.AB

/- Walks by hand through a function's first steps: a literal of a slice that is still written to; a row that is handed back as it is. -/
namespace Go.AB

theorem AW_of {P : Program} {E : Env} {c : Code} {σ : AS} {Q : Exit → AS → Prop} (h : exC P E c σ Q) : AW P E c Q σ := exC_ok c σ Q h

theorem AW_seq {P : Program} {E : Env} {a b : Code} {σ : AS} {Q : Exit → AS → Prop} (h : AW P E a (thenQ (fun σ => AW P E b Q σ) Q) σ) : AW P E (.seq a b) Q σ := by
  unfold AW at h ⊢
  intro hT A x w hs hst
  refine wpIn_seq (wpIn_mono (h hT A x w hs hst) ?_)
  rintro e a' w' ⟨A', σ', hs', h1, h2⟩
  cases e with
  | normal =>
    simp only [thenQ] at h2
    exact h2 hT A' a' w' hs' h1
  | _ => exact ⟨A', σ', hs', h1, h2⟩

theorem AW_block {P : Program} {E : Env} {id : Nat} {c : Code} {σ : AS} {Q : Exit → AS → Prop} (h : AW P E c (blockQ id Q) σ) : AW P E (.block id c) Q σ := by
  unfold AW at h ⊢
  intro hT A x w hs hst
  refine wpIn_block (wpIn_mono (h hT A x w hs hst) ?_)
  rintro e a' w' ⟨A', σ', hs', h1, h2⟩
  cases e with
  | exit id' =>
    simp only [blockQ] at h2
    simp only [Exit.inBlock]
    by_cases hid : id' = id
    · rw [if_pos hid] at h2 ⊢; exact ⟨A', σ', hs', h1, h2⟩
    · rw [if_neg hid] at h2 ⊢; exact ⟨A', σ', hs', h1, h2⟩
  | _ => exact ⟨A', σ', hs', h1, h2⟩

/-- A literal of one element as an array of one's own, under a chosen name. -/
def exLitM (P : Program) (m : AH) (d t len : Nat) (ps : List (Nat × AV)) (K : AH → AV → Prop) : Prop := match mkA P t, ps with
  | some (zs, _), [(0, v)] => len = 1 ∧ isCell v = true ∧ (acells v).length = zs.length ∧ zs.length ≤ 16777216 ∧ 0 < zs.length ∧ K (m.newBox d (acells v)) (.msl (.own d (gnext m d)) 0 1 1)
  | _, _ => False

theorem exLitM_ok {P : Program} {E : Env} {G : Gh} {m : AH} {w : World} {d t len : Nat} {ps : List (Nat × AV)} {qs : Array (Nat × Value)} {K : AH → AV → Prop} (h : exLitM P m d t len ps K) (hi : Inv E G m w) (hl : qs.toList.length = ps.length)
    (hq : ∀ (i : Nat) (p : Nat × AV) (q : Nat × Value), ps[i]? = some p → qs.toList[i]? = some q → p.1 = q.1 ∧ RepA G w p.2 q.2) :
    ∃ G' m' w' v u, (Instr.buildSlice t len qs).run P w = .ok u w' ∧ Ext G w G' w' ∧ Inv E G' m' w' ∧ RepA G' w' v u ∧ K m' v := by
  unfold exLitM at h
  split at h
  rotate_left
  · exact h.elim
  rename_i zs y v hmk
  obtain ⟨rfl, hcell, hvl, hz24, hz0, hK⟩ := h
  unfold mkA at hmk
  split at hmk
  rotate_left
  · cases hmk
  rename_i e hu
  split at hmk
  rotate_left
  · cases hmk
  rename_i zs' inf hz hinf
  cases hmk
  obtain ⟨i', zv, hinf', hzv, hzs, hrep⟩ := zeroA_of hz
  rw [hinf] at hinf'
  cases hinf'
  have hzl : zs.length = inf.size := by
    have := (hrep G w).len
    rw [Array.length_toList, hzs] at this
    exact this.symm
  obtain ⟨q, hqq⟩ : ∃ q, qs.toList = [q] := List.length_eq_one_iff.1 hl
  obtain ⟨e1, e2⟩ := hq 0 _ q rfl (by rw [hqq]; rfl)
  have hc := e2.cells hcell
  let cells0 : Array Value := (Array.range (1 * zs.length)).map fun i => zv.cells[i % zv.cells.size]!
  have hc0 : cells0.size = zs.length := by simp [cells0]
  obtain ⟨out, ho, hout⟩ := fill_seq zs.length qs.toList 0 cells0 (fun i q' hqi => by
    rw [hqq] at hqi
    cases i with
    | succ i => cases hqi
    | zero =>
      cases hqi
      refine ⟨by rw [← e1], ?_⟩
      have := hc.len
      rw [Array.length_toList] at this
      rw [this, hvl]) (by rw [hc0, hqq]; simp)
  rw [Nat.zero_mul, Nat.zero_add, hqq, List.take_zero, List.nil_append, List.drop_eq_nil_of_le (by simp [hc0]), List.append_nil] at hout
  simp only [List.map_cons, List.map_nil, List.flatten_cons, List.flatten_nil, List.append_nil] at hout
  obtain ⟨G', g1, g2, g3⟩ := hi.newBox d e (acells v) q.2.cells.toList hc.len hc.one hc.rep
  refine ⟨G', _, _, _, .slice (some ⟨w.heap.size, 0, none⟩) 1 1, ?_, g1, g2, ?_, hK⟩
  · have hus : q.2.cells.toList.toArray = out := by apply Array.ext'; rw [hout]
    have hgt : ¬ (1 * zs.length > 2 ^ 24) := by omega
    have hzr : (zeroValue e).run P w = .ok zv w := by simp [zeroValue, typeInfo, hinf, hzv]
    have h0 : ¬ (1 * zs.length = 0) := by omega
    rw [hus]
    have hcc : cells0 = (Array.range (1 * zs.length)).map fun x => zv.cells[x % zv.cells.size]! := rfl
    rw [hcc] at ho
    rw [hzl] at hgt h0 ho
    simp only [Instr.buildSlice, Sem.run_bind, run_underlying hu, Result.andThen_ok, sizeOf, typeInfo, run_program, hinf, Sem.run_pure, if_neg hgt, if_neg h0, hzr]
    rw [ho]
    simp [newRow]
  · exact .msl _ 0 1 1 _ 0 g3 (by simp [mapMark]) (Nat.le_refl _) (by simp [maxLen])

/-- The operations of a region, of which one (by its number) is a literal that is to be an array of one's own. -/
def exGM (P : Program) (d0 : Nat) (o : Oper) (σ : AS) (K : AS → Prop) : Prop := match o.guard, o.op with
  | none, .buildSlice t len ps => exLitM P σ.m d0 t len (evP P σ t ps) (kMem σ o.dst K)
  | _, _ => False

def exOpsM (P : Program) (ops : Array Oper) (d0 : Nat) : Nat → List Oper → AS → (AS → Prop) → Prop
  | _, [], σ, K => K σ
  | 0, o :: r, σ, K => exGM P d0 o σ (kOps (exOps P ops r) K)
  | k + 1, o :: r, σ, K => exG P ops o σ (kOps (exOpsM P ops d0 k r) K)

/-- One operation, and what follows. -/
theorem exG_step {P : Program} {E : Env} {rd : Option Nat} {ops : Array Oper} {K : AS → Prop} {Q : Exit → Act → World → Prop} (hT : TabsOk P E) {rest : List Nat} {k : Nat} {o : Oper} {σ : AS} {a : Act} {w : World} (hok : ops[k]? = some o) (h : exG P ops o σ K)
    (cont : ∀ σ' a' w', St E σ' a' w' → K σ' → wpOpsIn (fenceR rd) 0 P ops Q rest a' w') (hst : St E σ a w) : wpOpsIn (fenceR rd) 0 P ops Q (k :: rest) a w := by
  rw [wpOpsIn]
  simp only [hok]
  unfold exG at h
  split at h
  · rename_i hg
    have hw : Region.wanted o (yielded ops a.tmps) = true := by simp [Region.wanted, hg]
    rw [if_pos hw]
    exact Oper.in_of (exOp_nd h) (Oper.wp_mono (fun a' w' ⟨σ', h1, h2⟩ => cont σ' a' w' h1 h2) (exOp_ok hT h hst Q))
  · rename_i j want hg
    split at h
    · rename_i d hd
      obtain ⟨y1, y2⟩ := yielded_of hst hd
      split at h
      · rename_i b hb
        have h := gateW_iff.1 h
        have hy := y1 b hb
        by_cases hbw : b = want
        · have hw : Region.wanted o (yielded ops a.tmps) = true := by simp [Region.wanted, hg, hy, hbw]
          rw [if_pos hw]
          have h1 := h.1 hbw
          rw [put_same (hb.trans (by rw [hbw])) (by simp [undefA])] at h1
          exact Oper.in_of (exOp_nd h1) (Oper.wp_mono (fun a' w' ⟨σ', h1, h2⟩ => cont σ' a' w' h1 h2) (exOp_ok hT h1 hst Q))
        · have hbw2 : b = !want := by cases b <;> cases want <;> simp_all
          have hw : ¬ Region.wanted o (yielded ops a.tmps) = true := by simp [Region.wanted, hg, hy, hbw]
          rw [if_neg hw]
          have h2 := h.2 hbw2
          rw [put_same (hb.trans (by rw [hbw2])) (by simp [undefA])] at h2
          exact ⟨fun _ _ => trivial, cont _ _ _ (skip_st o.dst hst) h2⟩
      · rename_i vs hb
        have hy := y2 vs hb
        have hw : ¬ Region.wanted o (yielded ops a.tmps) = true := by simp [Region.wanted, hg, hy]
        rw [if_neg hw]
        exact ⟨fun _ _ => trivial, cont _ _ _ (skip_st o.dst hst) h⟩
      · exact h.elim
    · exact h.elim

theorem exGM_step {P : Program} {E : Env} {rd : Option Nat} {ops : Array Oper} {d0 : Nat} {K : AS → Prop} {Q : Exit → Act → World → Prop} {rest : List Nat} {k : Nat} {o : Oper} {σ : AS} {a : Act} {w : World} (hok : ops[k]? = some o) (h : exGM P d0 o σ K)
    (cont : ∀ σ' a' w', St E σ' a' w' → K σ' → wpOpsIn (fenceR rd) 0 P ops Q rest a' w') (hst : St E σ a w) : wpOpsIn (fenceR rd) 0 P ops Q (k :: rest) a w := by
  rw [wpOpsIn]
  simp only [hok]
  unfold exGM at h
  split at h
  · rename_i t len ps hg hop
    have hw : Region.wanted o (yielded ops a.tmps) = true := by simp [Region.wanted, hg]
    rw [if_pos hw]
    obtain ⟨G, hi, hs, hd, hr⟩ := hst
    obtain ⟨dst, op, ty, pos, after, guard⟩ := o
    simp only at hop hg
    subst hop hg
    have hq := evP_rep (P := P) (σ := σ) (a := a) (G := G) (w := w) hr t ps
    obtain ⟨G', m', w', v, u, h1, h2, h3, h4, h5⟩ := exLitM_ok (qs := ps.map fun x => (x.1, a.eval x.2)) h hi (by simp [evP]) (fun i p q hp hq' => by
      simp only [evP, List.getElem?_map] at hp
      simp only [Array.toList_map, List.getElem?_map] at hq'
      cases hps : ps.toList[i]? with
      | none => rw [hps] at hp; cases hp
      | some x =>
        rw [hps] at hp hq'
        cases hp; cases hq'
        exact ⟨rfl, ev_rep hr _ _⟩)
    exact Oper.in_of (fun _ => by simp) (Oper.wp_mono (fun a' w' ⟨σ', h1, h2⟩ => cont σ' a' w' h1 h2) (does_mem (P := P) (E := E) (K := K) hs hd hr ⟨G', m', w', v, u, .inl (by
      simp only [execOp, Sem.run_bind, Sem.run_pure, Result.andThen_ok]
      rw [h1]
      rfl), h2, h3, h4, h5⟩ Q))
  · exact h.elim

theorem exOpsM_ok {P : Program} {E : Env} {rd : Option Nat} {ops : Array Oper} {d0 : Nat} {K : AS → Prop} {Q : Exit → Act → World → Prop} (hT : TabsOk P E) (hQ : ∀ σ a w, St E σ a w → K σ → Q .normal a w) :
    ∀ (n : Nat) (l : List Oper) (k : Nat) (σ : AS) (a : Act) (w : World), ops.toList.drop k = l → exOpsM P ops d0 n l σ K → St E σ a w → wpOpsIn (fenceR rd) 0 P ops Q (List.range' k l.length) a w
  | n, [], k, σ, a, w, _, h, hst => by simpa [wpOpsIn] using hQ σ a w hst (by cases n <;> exact h)
  | 0, o :: r, k, σ, a, w, hk, h, hst => by
    have hok : ops[k]? = some o := by
      have := congrArg (·[0]?) hk
      simpa using this
    have hr : ops.toList.drop (k + 1) = r := by
      have := congrArg (List.drop 1) hk
      simpa [List.drop_drop, Nat.add_comm] using this
    rw [List.length_cons, List.range'_succ]
    exact exGM_step hok h (fun σ' a' w' h1 h2 => exOps_ok hT hQ r (k + 1) σ' a' w' hr h2 h1) hst
  | n + 1, o :: r, k, σ, a, w, hk, h, hst => by
    have hok : ops[k]? = some o := by
      have := congrArg (·[0]?) hk
      simpa using this
    have hr : ops.toList.drop (k + 1) = r := by
      have := congrArg (List.drop 1) hk
      simpa [List.drop_drop, Nat.add_comm] using this
    rw [List.length_cons, List.range'_succ]
    exact exG_step hT hok h (fun σ' a' w' h1 h2 => exOpsM_ok hT hQ n r (k + 1) σ' a' w' hr h2 h1) hst

theorem AW_regionM {P : Program} {E : Env} {id : Nat} {ops : Array Oper} {σ : AS} {Q : Exit → AS → Prop} (n d0 : Nat) (h : exOpsM P ops d0 n ops.toList σ (Q .normal)) : AW P E (.region id ops false) Q σ := by
  unfold AW
  intro hT A a w hs hst
  refine wpIn_region ?_
  have := exOpsM_ok (P := P) (E := A) (rd := E.rd) (ops := ops) (K := Q .normal) (Q := Lift E Q) (hs.tabs hT) (fun σ' a' w' h1 h2 => ⟨A, σ', hs, h1, h2⟩) n ops.toList 0 σ a w (by simp) h hst
  rwa [Array.length_toList, ← List.range_eq_range'] at this

@[go_sem] theorem exOpsM_zero {P : Program} {ops : Array Oper} {d0 : Nat} {o : Oper} {r : List Oper} {σ : AS} {K : AS → Prop} : exOpsM P ops d0 0 (o :: r) σ K = exGM P d0 o σ (kOps (exOps P ops r) K) := (rfl)
@[go_sem] theorem exOpsM_succ {P : Program} {ops : Array Oper} {d0 n : Nat} {o : Oper} {r : List Oper} {σ : AS} {K : AS → Prop} : exOpsM P ops d0 (n + 1) (o :: r) σ K = exG P ops o σ (kOps (exOpsM P ops d0 n r) K) := (rfl)
@[congr] theorem exOpsM_congr {P : Program} {ops : Array Oper} {d0 n : Nat} {l : List Oper} {σ σ' : AS} {K : AS → Prop} (h : σ = σ') : exOpsM P ops d0 n l σ K = exOpsM P ops d0 n l σ' K := by rw [h]
@[congr] theorem exGM_congr {P : Program} {d0 : Nat} {o : Oper} {σ σ' : AS} {K : AS → Prop} (h : σ = σ') : exGM P d0 o σ K = exGM P d0 o σ' K := by rw [h]
@[congr] theorem exLitM_congr {P : Program} {m m' : AH} {d t len : Nat} {ps ps' : List (Nat × AV)} {K : AH → AV → Prop} (h : m = m') (h2 : ps = ps') : exLitM P m d t len ps K = exLitM P m' d t len ps' K := by rw [h, h2]
attribute [go_sem] exGM exLitM

/-! A row of one's own that is handed back. -/

/-- One's own array as a row that stays. -/
def SealAt (m : AH) (z : Nat) (v : AV) (es : List DV) : Prop :=
  ∃ l cap cs, v = .msl l 0 es.length cap ∧ m.cells l = some cs ∧ es.length ≤ cap ∧ cs.length = cap * z ∧ toDs (cs.take (es.length * z)) = some (es.flatMap dcells) ∧ ∀ (i : Nat) (e : DV), es[i]? = some e → (dcells e).length = z

theorem Inv.seal {E : Env} {G : Gh} {m : AH} {w : World} (h : Inv E G m w) (hE : ∀ l, E.g0.bx l = none) {z : Nat} {v : AV} {es : List DV} {u : Value} (hs : SealAt m z v es) (hv : RepA G w v u) :
    ∃ G', Inv E G' ⟨[], [], m.nx, m.lv⟩ w ∧ (∀ a x, portA a = true → RepA G w a x → RepA G' w a x) ∧ RepA G' w (.sl z es .no) u := by
  obtain ⟨l, cap, cs, rfl, hc, hlc, hcl, hds, hz⟩ := hs
  cases hv with
  | msl _ _ _ _ b o hb h0 _ hcm =>
  obtain ⟨b', o', hb', hwho, hmay, hst, hcell, _⟩ := h.box _ cs hc
  rw [hb] at hb'
  cases hb'
  have hcell := hcell h0
  let G' : Gh := { st := fun b2 j => G.st b2 j ∨ (b2 = b ∧ o ≤ j ∧ j < o + es.length * z), bx := fun _ => none, tk := G.tk, nx := G.nx, who := fun b2 => if b2 = b then none else match G.who b2 with | some (.inr j) => some (.inr j) | _ => none }
  have hstm : ∀ b2 o2, G.st b2 o2 → G'.st b2 o2 := fun _ _ x => .inl x
  have hren : Ren (fun _ => none) G G' := ⟨hstm, (fun _ _ _ hk => by cases hk), rfl, rfl⟩
  refine ⟨G', ⟨h.kept, fun l2 cs2 hc2 => ?_, fun _ _ _ => rfl, fun i hi => ?_, h.lt, h.nx, fun b2 hb2 => ?_, ?_, fun b2 o2 hs hb2 => ?_⟩, fun a x ha hr => ?_, ?_⟩
  · cases l2 <;> simp [AH.cells, hget] at hc2
  · rcases h.tok i hi with ht | ⟨b3, o3, n, c, z3, cells, ty, t1, t2, t3, t4, t5, t6, t7⟩
    · exact .inl ht
    · have hne : b3 ≠ b := fun e => by rw [e, hwho] at t2; cases t2
      refine .inr ⟨b3, o3, n, c, z3, cells, ty, t1, ?_, t3, t4, t5, t6, fun j hj hs => ?_⟩
      · show (if b3 = b then none else _) = _
        rw [if_neg hne, t2]
      · rcases hs with hs | ⟨e, _⟩
        · exact t7 j hj hs
        · exact hne e
  · have hne : b2 ≠ b := fun e => by have := who_lt h hwho; omega
    obtain ⟨f1, f2⟩ := h.fresh b2 hb2
    refine ⟨?_, fun j hs => ?_⟩
    · show (if b2 = b then none else _) = _
      rw [if_neg hne, f1]
    · rcases hs with hs | ⟨e, _⟩
      · exact f2 j hs
      · exact hne e
  · exact ⟨fun b2 o2 hs => hstm _ _ (h.ext.st _ _ hs), h.ext.cell, (fun l x hx => by rw [hE] at hx; cases hx), h.ext.nx, h.ext.tk⟩
  · rcases hs with hs | ⟨rfl, _⟩
    · exact h.st1 b2 o2 hs hb2
    · rcases hmay with hm | hm
      · exact .inr hm
      · omega
  · exact rnA_rep hren hr (rnA_port ha)
  · refine .sl z es .no _ cap ⟨hlc, hcm, hz, .inr ⟨b, o + 0, rfl, fun i e he j d hd => ?_⟩⟩ trivial
    have hi := (List.getElem?_eq_some_iff.1 he).1
    have hj : j < z := by rw [← hz i e he]; exact (List.getElem?_eq_some_iff.1 hd).1
    have hb3 := index_lt hi hj
    have hfl := flat_len hz
    -- the cell's datum
    have hdd : (es.flatMap dcells)[i * z + j]? = some d := by
      have hlt : i * z + j < (es.flatMap dcells).length := by rw [hfl]; exact hb3
      obtain ⟨i2, e2, j2, q1, q2, q3⟩ := flat_get hz (List.getElem?_eq_getElem hlt)
      have hj2 : j2 < z := by rw [← hz i2 e2 q1]; exact (List.getElem?_eq_some_iff.1 q2).1
      have hii : i = i2 := by
        have h1 : (i * z + j) / z = i := by rw [Nat.mul_comm, Nat.mul_add_div (by omega), Nat.div_eq_of_lt hj]; omega
        have h2 : (i2 * z + j2) / z = i2 := by rw [Nat.mul_comm, Nat.mul_add_div (by omega), Nat.div_eq_of_lt hj2]; omega
        rw [← h1, q3, h2]
      subst hii
      have hjj : j = j2 := by omega
      subst hjj
      rw [he] at q1
      cases q1
      rw [hd] at q2
      rw [List.getElem?_eq_getElem hlt, ← q2]
    obtain ⟨_, g2⟩ := toDs_get _ _ hds
    obtain ⟨c, hck, hcd⟩ := g2 _ _ hdd
    rw [List.getElem?_take, if_pos hb3] at hck
    obtain ⟨_, x, v1, v2, v3⟩ := hcell _ c hck
    exact ⟨.inr ⟨rfl, by omega, by omega⟩, x, by rw [Nat.add_zero]; exact v1, (toD1_rep hcd v3 v2).ext hstm (fun _ _ _ => rfl)⟩

def kBodyS (R : AH → AV → Prop) (m : AH) (vs : List AV) : Prop :=
  (port (resV vs) = true ∧ R m (resV vs)) ∨ ∃ z v es rest, vs = v :: rest ∧ SealAt m z v es ∧ rest.all portA = true ∧ R ⟨[], [], m.nx, m.lv⟩ (resV (.sl z es .no :: rest))

def bodyQS (P : Program) (rs : List ResultVar) (R : AH → AV → Prop) : Exit → AS → Prop
  | .normal, σ => resK P σ rs (kBodyS R σ.m)
  | .ret, σ => resK P σ rs (kBodyS R σ.m)
  | _, _ => False

/-- A function's body, walked in steps; its first result may be an array of its own. -/
theorem PCall.of_bodySR {P : Program} {f : Nat} {fn : Func} {c : Code} {as : List AV} {R : AH → AV → Prop} {n : Nat} {rs : List ResultVar} (hf : P.funcs[f]? = some fn) (hb : fn.body = some c) (hn : fn.ntmps = n) (hrs : fn.results.toList = rs)
    (h : ∀ E, E.top → AW P E c (bodyQS P rs R) ⟨as ++ List.replicate (n - as.length) undefA, emptyH⟩) : PCall P f as R := by
  subst hn hrs
  unfold PCall
  intro st w vs hlaid hst hrep
  refine body_walk (kk := kBodyS R) hf hb rfl rfl rfl hlaid.kept (start_inv hst) hrep (AW_mono (h _ ⟨rfl, rfl, fun x => x⟩) fun e σ hq => ?_) ?_
  · cases e <;> exact hq
  · rintro G m w' us vs2 hi h2 (⟨h3, h4⟩ | ⟨z, v, es, rest, rfl, hse, hpo, h4⟩)
    · exact ⟨_, _, G, m, rfl, hi, resV_rep h2, h3, h4⟩
    · obtain ⟨l1, l2⟩ := h2
      cases us with
      | nil => simp at l1
      | cons u us =>
        obtain ⟨G', g1, g2, g3⟩ := hi.seal (fun _ => rfl) hse (l2 0 _ _ rfl rfl)
        refine ⟨_, _, G', _, rfl, g1, resV_rep ⟨by simpa using l1, fun i a x ha hx => ?_⟩, ?_, h4⟩
        · cases i with
          | zero => cases ha; cases hx; exact g3
          | succ i =>
            simp only [List.getElem?_cons_succ] at ha hx
            exact g2 a x (List.all_eq_true.1 hpo a (List.mem_of_getElem? ha)) (l2 (i + 1) a x (by simpa using ha) (by simpa using hx))
        · cases rest with
          | nil => rfl
          | cons a rest =>
            show ((AV.sl z es .no) :: a :: rest).all portA = true
            rw [List.all_cons, hpo]; rfl

theorem PCall.of_bodyS {P : Program} {f : Nat} {fn : Func} {c : Code} {as : List AV} {R : AH → AV → Prop} {n : Nat} {rs : List ResultVar} (hf : P.funcs[f]? = some fn) (hb : fn.body = some c) (hn : fn.ntmps = n) (hrs : fn.results.toList = rs)
    (h : ∀ E, AW P E c (bodyQS P rs R) ⟨as ++ List.replicate (n - as.length) undefA, emptyH⟩) : PCall P f as R := PCall.of_bodySR hf hb hn hrs fun E _ => h E

theorem PCall.of_bodySE {P : Program} {f : Nat} {fn : Func} {c : Code} {as : List AV} {r : AV} {n : Nat} {rs : List ResultVar} (hf : P.funcs[f]? = some fn) (hb : fn.body = some c) (hn : fn.ntmps = n) (hrs : fn.results.toList = rs)
    (h : ∀ E, AW P E c (bodyQS P rs (RE r)) ⟨as ++ List.replicate (n - as.length) undefA, emptyH⟩) : PCall P f as (RV r) :=
  (PCall.of_bodyS hf hb hn hrs h).erased fun _ _ h => h

/-- The body of a function that may write what it is handed, walked in steps. -/
theorem QCall.of_bodyA {P : Program} {f : Nat} {fn : Func} {c : Code} {m0 : AH} {as : List AV} {R : AH → AV → Prop} {n : Nat} {rs : List ResultVar} (hf : P.funcs[f]? = some fn) (hb : fn.body = some c) (hn : fn.ntmps = n) (hrs : fn.results.toList = rs)
    (h : ∀ E, AW P E c (bodyQW P rs R) ⟨as ++ List.replicate (n - as.length) undefA, m0⟩) : QCall P f m0 as R := QCall.of_bodyR hf hb hn hrs fun E _ => h E

@[go_sem] theorem bodyQS_normal {P : Program} {rs : List ResultVar} {R : AH → AV → Prop} {σ : AS} : bodyQS P rs R .normal σ = resK P σ rs (kBodyS R σ.m) := (rfl)
@[go_sem] theorem bodyQS_ret {P : Program} {rs : List ResultVar} {R : AH → AV → Prop} {σ : AS} : bodyQS P rs R .ret σ = resK P σ rs (kBodyS R σ.m) := (rfl)
@[congr] theorem kBodyS_congr {R : AH → AV → Prop} {m m' : AH} {vs vs' : List AV} (h : m = m') (h2 : vs = vs') : kBodyS R m vs = kBodyS R m' vs' := by rw [h, h2]

end Go.AB
