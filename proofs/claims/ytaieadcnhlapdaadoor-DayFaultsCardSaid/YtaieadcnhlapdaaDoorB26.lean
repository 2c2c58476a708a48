/- Regions that draw their order, with operations that write among them, one behind the other: phase by phase. -/
import Derived.Test.YtaieadcnhlapdaaDoorB24
namespace Go.AB

def valD (dst : Option Nat) (τ : AS) : AV := match dst with
  | some d => nth τ.s d
  | none => undefA
def valN (dst : Option Nat) (v : AV) : AV := match dst with
  | some _ => v
  | none => undefA
theorem valD_put {dst : Option Nat} {s : List AV} {m : AH} {v : AV} (h : ∀ d, dst = some d → d < s.length) : valD dst (AS.put ⟨s, m⟩ dst v) = valN dst v := by
  cases dst with
  | none => rfl
  | some d =>
    simp only [valD, valN, AS.put, nth_set]
    simp [h d rfl]
theorem put_valN {σ : AS} {dst : Option Nat} {v : AV} : σ.put dst (valN dst v) = σ.put dst v := by cases dst <;> rfl

def sameV : Option AV → AV → Prop
  | none, _ => True
  | some u, v => v = u

def kPass (f : List (Option AV) → AS → Prop) (x : Option AV) (acc : List (Option AV)) (dst : Option Nat) (τ : AS) : Prop :=
  sameV x (valD dst τ) ∧ f (some (valD dst τ) :: acc) τ

/-- The operations of a region in the order of the text: those that have been, those that come later, the one that writes (3), and those that are reckoned now (2). -/
def passP (P : Program) (ops : Array Oper) (K : List (Option AV) → List AV → AS → Prop) : List Oper → List Nat → List (Option AV) → List AV → List (Option AV) → AS → Prop
  | o :: r, k :: cl, x :: rec, sv, acc, σ => match k, x with
    | 0, some v => passP P ops K r cl rec sv (some v :: acc) (σ.put o.dst v)
    | 1, _ => passP P ops K r cl rec sv (none :: acc) (σ.put o.dst undefA)
    | 3, _ => passP P ops K r cl rec σ.s (none :: acc) (σ.put o.dst undefA)
    | 2, x => exGD P ops o σ (kPass (passP P ops K r cl rec sv) x acc o.dst)
    | _, _ => False
  | [], _, _, sv, acc, σ => K acc.reverse sv σ
  | _, _, _, _, _, _ => False

def kFin (K : AS → Prop) (_ : List (Option AV)) (_ : List AV) (τ : AS) : Prop := ∀ nx lv, τ.m.nx ≤ nx → (∀ j, τ.m.lv j → lv j) → K ⟨τ.s, ⟨τ.m.h, τ.m.o, nx, lv⟩⟩
def kNext (f : List (Option AV) → AH → Prop) (vals : List (Option AV)) (c : Nat) (dst : Option Nat) (τ : AS) : Prop := f (vals.set c (some (valD dst τ))) τ.m
def kLoud (P : Program) (ops : Array Oper) (c : Nat) (f : List (Option AV) → AH → Prop) (vals : List (Option AV)) (sv : List AV) (τ : AS) : Prop := match ops[c]? with
  | some o => ∀ nx lv, τ.m.nx ≤ nx → (∀ j, τ.m.lv j → lv j) → exG P ops o ⟨sv, ⟨τ.m.h, τ.m.o, nx, lv⟩⟩ (kNext f vals c o.dst)
  | none => False

def exPh (P : Program) (ops : Array Oper) (l : List Oper) (s0 : List AV) (K : AS → Prop) : List (Nat × List Nat) → List Nat → List (Option AV) → AH → Prop
  | [], cl, rec, m => passP P ops (kFin K) l cl rec [] [] ⟨s0, m⟩
  | (c, cl') :: cs, cl, rec, m => passP P ops (kLoud P ops c (exPh P ops l s0 K cs cl')) l cl rec [] [] ⟨s0, m⟩

def recOf : List Nat → List AV → List (Option AV)
  | k :: cl, v :: vs => (if k = 1 ∨ k = 3 then none else some v) :: recOf cl vs
  | _, _ => []

theorem recOf_len : ∀ {cl : List Nat} {vs : List AV}, cl.length = vs.length → (recOf cl vs).length = vs.length
  | [], [], _ => rfl
  | [], _ :: _, h => by simp at h
  | _ :: _, [], h => by simp at h
  | k :: cl, v :: vs, h => by simp only [recOf, List.length_cons]; rw [recOf_len (by simpa using h)]
theorem recOf_get : ∀ {cl : List Nat} {vs : List AV} {i k : Nat} {v : AV}, cl[i]? = some k → vs[i]? = some v → (recOf cl vs)[i]? = some (if k = 1 ∨ k = 3 then none else some v)
  | [], _, i, k, v, h, _ => by simp at h
  | _ :: _, [], i, k, v, _, h => by simp at h
  | k0 :: cl, v0 :: vs, 0, k, v, h1, h2 => by simp at h1 h2; subst h1 h2; rfl
  | k0 :: cl, v0 :: vs, i + 1, k, v, h1, h2 => by
    simp only [recOf, List.getElem?_cons_succ]
    exact recOf_get (by simpa using h1) (by simpa using h2)

theorem YieldsA.valN {P : Program} {ops : Array Oper} {o : Oper} {v : AV} {σ : AS} (h : YieldsA P ops o v σ) : YieldsA P ops o (valN o.dst v) σ := by
  cases hd : o.dst with
  | some d => exact h
  | none =>
    intro σ' ag K' hK'
    refine h σ' ag K' (fun nx lv h1 h2 => ?_)
    have := hK' nx lv h1 h2
    rw [hd] at this ⊢
    exact this

/-- What a pass comes to. -/
structure PassD (P : Program) (ops : Array Oper) (l : List Oper) (cl : List Nat) (rec : List (Option AV)) (sv0 : List AV) (σ : AS) (vs sv : List AV) : Prop where
  len : vs.length = l.length
  cls : cl.length = l.length
  kind : ∀ (i k : Nat), cl[i]? = some k → k = 0 ∨ k = 1 ∨ k = 2 ∨ k = 3
  yld : ∀ (i : Nat) (o : Oper) (v : AV), l[i]? = some o → vs[i]? = some v → cl[i]? = some 2 → YieldsA P ops o v (puts σ (l.take i) (vs.take i))
  rcd : ∀ (i k : Nat) (v : AV), cl[i]? = some k → k = 0 ∨ k = 2 → rec[i]? = some (some v) → vs[i]? = some v
  sv : (∃ i : Nat, cl[i]? = some 3 ∧ sv = (puts σ (l.take i) (vs.take i)).s ∧ ∀ j : Nat, i < j → cl[j]? ≠ some 3) ∨ (sv = sv0 ∧ ∀ i : Nat, cl[i]? ≠ some 3)

theorem pass_text {P : Program} {ops : Array Oper} {K : List (Option AV) → List AV → AS → Prop} : ∀ (l : List Oper) (cl : List Nat) (rec : List (Option AV)) (sv : List AV) (acc : List (Option AV)) (σ : AS),
    cl.length = l.length → (∀ o ∈ l, ∀ d, o.dst = some d → d < σ.s.length) → passP P ops K l cl rec sv acc σ →
    ∃ vs sv', PassD P ops l cl rec sv σ vs sv' ∧ K (acc.reverse ++ recOf cl vs) sv' (puts σ l vs)
  | [], cl, rec, sv, acc, σ, hcl, _, h => by
    cases cl with
    | cons _ _ => simp at hcl
    | nil => exact ⟨[], sv, ⟨rfl, rfl, by simp, by simp, by simp, .inr ⟨rfl, by simp⟩⟩, by
      have h' : K acc.reverse sv σ := by cases rec <;> exact h
      simpa [recOf, puts] using h'⟩
  | o :: r, [], rec, sv, acc, σ, hcl, _, h => by simp at hcl
  | o :: r, k :: cl, [], sv, acc, σ, _, _, h => by simp [passP] at h
  | o :: r, k :: cl, x :: rec, sv, acc, σ, hcl, hd, h => by
    have hcl' : cl.length = r.length := by simpa using hcl
    have hlen : ∀ v, ∀ o' ∈ r, ∀ d, o'.dst = some d → d < (σ.put o.dst v).s.length := fun v o' ho' d hdd => by
      rw [put_len]; exact hd o' (List.mem_cons_of_mem _ ho') d hdd
    have fin : ∀ (v : AV) (sv1 : List AV) (y : Option AV), (y = if k = 1 ∨ k = 3 then none else some v) → passP P ops K r cl rec sv1 (y :: acc) (σ.put o.dst v) → (k = 0 ∨ k = 1 ∨ k = 2 ∨ k = 3) → (k = 2 → YieldsA P ops o v σ) →
        (k = 0 ∨ k = 2 → ∀ u, x = some u → v = u) → (k = 3 → sv1 = σ.s) → (k ≠ 3 → sv1 = sv) →
        ∃ vs sv', PassD P ops (o :: r) (k :: cl) (x :: rec) sv σ vs sv' ∧ K (acc.reverse ++ recOf (k :: cl) vs) sv' (puts σ (o :: r) vs) := by
      intro v sv1 y hy hp hk hyl hrec hs3 hs
      obtain ⟨vs, sv', D, g2⟩ := pass_text r cl rec sv1 (y :: acc) (σ.put o.dst v) hcl' (hlen v) hp
      refine ⟨v :: vs, sv', ⟨by simp [D.len], by simp [hcl'], fun i k' hk' => ?_, fun i o' v' ho' hv' hc' => ?_, fun i k' v' hc' hk' hr' => ?_, ?_⟩, ?_⟩
      · cases i with
        | zero => simp at hk'; subst hk'; exact hk
        | succ i => exact D.kind i k' (by simpa using hk')
      · cases i with
        | zero =>
          simp at ho' hv' hc'
          subst ho' hv'
          simpa [puts] using hyl hc'
        | succ i =>
          simp only [List.take_succ_cons]
          unfold puts
          exact D.yld i o' v' (by simpa using ho') (by simpa using hv') (by simpa using hc')
      · cases i with
        | zero =>
          simp at hc' hr' ⊢
          subst hc'
          exact hrec hk' v' hr'
        | succ i => simpa using D.rcd i k' v' (by simpa using hc') hk' (by simpa using hr')
      · rcases D.sv with ⟨i, h1, h2, h3⟩ | ⟨h1, h2⟩
        · refine .inl ⟨i + 1, by simpa using h1, ?_, fun j hj => ?_⟩
          · rw [h2]; simp only [List.take_succ_cons, puts]
          · cases j with
            | zero => omega
            | succ j => simpa using h3 j (by omega)
        · by_cases hk3 : k = 3
          · refine .inl ⟨0, by simp [hk3], by rw [h1, hs3 hk3]; simp [puts], fun j hj => ?_⟩
            cases j with
            | zero => omega
            | succ j => simpa using h2 j
          · refine .inr ⟨by rw [h1, hs hk3], fun i => ?_⟩
            cases i with
            | zero => simpa using hk3
            | succ i => simpa using h2 i
      · unfold puts
        simp only [recOf]
        rw [← hy]
        simpa using g2
    unfold passP at h
    split at h
    · rename_i v
      exact fin v _ (some v) (by simp) h (by simp) (by simp) (fun _ u hu => by cases hu; rfl) (by simp) (fun _ => rfl)
    · exact fin undefA _ none (by simp) h (by simp) (by simp) (fun e => by omega) (by simp) (fun _ => rfl)
    · exact fin undefA _ none (by simp) h (by simp) (by simp) (fun e => by omega) (fun _ => rfl) (fun e => absurd rfl e)
    · obtain ⟨v, ⟨h1, h2⟩, h3⟩ := exGD_local h
      have ev : valD o.dst (σ.put o.dst v) = valN o.dst v := valD_put (fun d hdd => hd o (List.mem_cons_self ..) d hdd)
      rw [ev] at h1 h2
      refine fin (valN o.dst v) _ (some (valN o.dst v)) (by simp) (by rw [put_valN]; exact h2) (by simp) (fun _ => h3.valN) (fun _ u hu => ?_) (by simp) (fun _ => rfl)
      cases hu
      exact h1
    · exact h.elim

/-- Operations that may write. -/
def loudB : Op → Bool
  | .store .. | .call _ | .mapUpdate .. | .alloc _ | .box .. | .buildSlice .. | .makeMap .. | .makeSlice .. => true
  | _ => false

theorem exLit_mono {P : Program} {m : AH} {t len : Nat} {ps : List (Nat × AV)} {K K' : AH → AV → Prop} (h : exLit P m t len ps K) (hK : ∀ m v, K m v → K' m v) : exLit P m t len ps K' := by
  unfold exLit at h ⊢
  split at h
  · split at h
    · obtain ⟨h1, h2, h3, h4, h5, h6⟩ := h
      exact ⟨h1, h2, h3, h4, h5, hK _ _ h6⟩
    · exact h.elim
  · exact h.elim
theorem exMake_mono {P : Program} {m : AH} {d : Option Nat} {t : Nat} {l c : AV} {K K' : AH → AV → Prop} (h : exMake P m d t l c K) (hK : ∀ m v, K m v → K' m v) : exMake P m d t l c K' := by
  unfold exMake at h ⊢
  split at h
  · split at h
    · obtain ⟨h1, h2, h3, h4, h5⟩ := h
      exact ⟨h1, h2, h3, h4, hK _ _ h5⟩
    · exact h.elim
  · exact h.elim
theorem exStore_mono {P : Program} {m : AH} {t : Nat} {a x : AV} {K K' : AH → Prop} (h : exStore P m t a x K) (hK : ∀ m, K m → K' m) : exStore P m t a x K' := by
  unfold exStore at h ⊢
  split at h
  · split at h
    · obtain ⟨h1, h2, h3, h4⟩ := h
      exact ⟨h1, h2, h3, hK _ h4⟩
    · exact h.elim
  · exact h.elim
theorem exUpdate_mono {P : Program} {m : AH} {t : Nat} {x k v : AV} {K K' : AH → Prop} (h : exUpdate P m t x k v K) (hK : ∀ m, K m → K' m) : exUpdate P m t x k v K' := by
  unfold exUpdate upC at h ⊢
  split at h
  · split at h
    · split at h
      · split at h
        · obtain ⟨h1, h2, h3⟩ := h
          exact ⟨h1, h2, hK _ h3⟩
        · exact h.elim
      · exact h.elim
    · exact h.elim
  · exact h.elim

section
variable {P : Program} {ops : Array Oper} {o : Oper} {s s' : List AV} {m : AH}

/-- The slots that a state shows beside its memory. -/
def JK (s' : List AV) (dst : Option Nat) (J : AH → AV → Prop) (τ : AS) : Prop := ∃ v, τ = AS.put ⟨s', τ.m⟩ dst v ∧ J τ.m (valN dst v)

theorem JK.put {dst : Option Nat} {J : AH → AV → Prop} {m' : AH} {v : AV} (hs : ∀ d, dst = some d → d < s.length) (h : J (AS.put ⟨s, m'⟩ dst v).m (valD dst (AS.put ⟨s, m'⟩ dst v))) : JK s' dst J (AS.put ⟨s', m'⟩ dst v) := by
  rw [valD_put hs, put_m] at h
  exact ⟨v, by rw [put_m], by rw [put_m]; exact h⟩

theorem loud_op {J : AH → AV → Prop} (hl : loudB o.op = true) (ag : Agree ops o ⟨s, m⟩ ⟨s', m⟩) (hs : ∀ d, o.dst = some d → d < s.length)
    (h : exOp P o ⟨s, m⟩ (fun τ => J τ.m (valD o.dst τ))) : exOp P o ⟨s', m⟩ (JK s' o.dst J) := by
  obtain ⟨dst, op, ty, pos, after, guard⟩ := o
  rw [exOp_eq] at h ⊢
  have e1 : ∀ (x : Operand), x ∈ op.operands → ∀ t, AS.ev P ⟨s', m⟩ t x = AS.ev P ⟨s, m⟩ t x := fun x hx t => ag.ev hx t
  cases op <;> first | (cases hl; done) | skip
  case alloc t =>
    simp only at h ⊢
    split at h
    · exact JK.put hs h
    · split at h
      · exact JK.put hs h
      · exact h.elim
    · exact h.elim
  case box t x =>
    simp only at h ⊢
    split at h
    · rw [e1 x (by simp [Op.operands])]
      exact ⟨h.1, JK.put hs h.2⟩
    · exact h.elim
  case buildSlice t len ps =>
    simp only at h ⊢
    have e : evP P ⟨s', m⟩ t ps = evP P ⟨s, m⟩ t ps := by
      unfold evP
      apply List.map_congr_left
      intro p hp
      rw [e1 p.2 (by simp only [Op.operands]; simp; exact ⟨p.1, by simpa using hp⟩)]
    rw [e]
    exact exLit_mono h fun m' v h => JK.put hs h
  case store t x y =>
    simp only at h ⊢
    rw [e1 x (by simp [Op.operands]), e1 y (by simp [Op.operands])]
    exact exStore_mono h fun m' h => JK.put hs h
  case makeSlice t x y =>
    simp only at h ⊢
    rw [e1 x (by simp [Op.operands]), e1 y (by simp [Op.operands])]
    exact exMake_mono h fun m' v h => JK.put hs h
  case makeMap t r =>
    cases r with
    | some _ => exact h.elim
    | none =>
      simp only at h ⊢
      split at h
      · exact JK.put hs h
      · exact h.elim
  case mapUpdate t x k v =>
    simp only at h ⊢
    rw [e1 x (by simp [Op.operands]), e1 k (by simp [Op.operands]), e1 v (by simp [Op.operands])]
    exact exUpdate_mono h fun m' h => JK.put hs h
  case call c =>
    simp only at h ⊢
    obtain ⟨callee, args, argTypes⟩ := c
    have e2 : evs P ⟨s', m⟩ argTypes args = evs P ⟨s, m⟩ argTypes args := ag.evs (fun x hx => by simp only [Op.operands, Call.operands, Array.mem_append]; exact .inr hx) _
    rw [exCall_eq] at h ⊢
    simp only [e2]
    cases callee with
    | builtin b =>
      simp only at h ⊢
      unfold exBuiltin at h ⊢
      split at h
      · obtain ⟨v, h1, h2⟩ := exLen_det _ h
        exact h2 _ (JK.put hs h1)
      · exact exAppX_mono h fun m' v h => JK.put hs h
      · obtain ⟨v, h1, h2⟩ := exMM_det _ h
        exact h2 _ (JK.put hs h1)
      · obtain ⟨v, h1, h2⟩ := exMM_det _ h
        exact h2 _ (JK.put hs h1)
      · exact h.elim
    | value f =>
      simp only at h ⊢
      rw [e1 f (by simp [Op.operands, Call.operands])]
      split at h
      · obtain ⟨hb, h⟩ := h
        refine ⟨hb, ?_⟩
        have inl : ∀ {k : Nat} {as : List AV}, inlK P k as ⟨s, m⟩ dst (fun τ => J τ.m (valD dst τ)) → inlK P k as ⟨s', m⟩ dst (JK s' dst J) := by
          intro k as h
          unfold inlK at h ⊢
          obtain ⟨R, h1, h2⟩ := h
          exact ⟨R, h1, fun m' r hr => JK.put hs (h2 m' r hr)⟩
        split at h
        · obtain ⟨as, has, h⟩ := h
          refine ⟨as, has, ?_⟩
          unfold callX at h ⊢
          rcases h with ⟨R, h1, h2⟩ | h
          · refine .inl ⟨R, h1, ?_⟩
            unfold callK at h2 ⊢
            exact fun m' r g1 nx2 lv2 g2 g3 g4 => JK.put hs (h2 m' r g1 nx2 lv2 g2 g3 g4)
          · exact .inr (inl h)
        · rcases h with ⟨as, has, h⟩ | h
          · refine .inl ⟨as, has, ?_⟩
            unfold quietK at h ⊢
            obtain ⟨r, h1, h2, h3⟩ := h
            exact ⟨r, h1, h2, JK.put hs h3⟩
          · refine .inr ?_
            unfold effX at h ⊢
            rcases h with h | h
            · refine .inl ?_
              unfold effK at h ⊢
              obtain ⟨ls, as, css, ds, R, h1, h2, h3, h4, h5, h6⟩ := h
              refine ⟨ls, as, css, ds, R, h1, h2, h3, h4, h5, fun m' r hr => ?_⟩
              obtain ⟨ad, T, c0, cs2, r2, k1, k2, k3, k4, k5⟩ := h6 m' r hr
              exact ⟨ad, T, c0, cs2, r2, k1, k2, k3, k4, JK.put hs k5⟩
            · exact .inr (inl h)
      · exact h.elim
    | invoke _ _ => exact h.elim

theorem loud_g {J : AH → AV → Prop} (hl : loudB o.op = true) (ag : Agree ops o ⟨s, m⟩ ⟨s', m⟩) (hs : ∀ d, o.dst = some d → d < s.length) 
    (h : exG P ops o ⟨s, m⟩ (fun τ => J τ.m (valD o.dst τ))) : exG P ops o ⟨s', m⟩ (JK s' o.dst J) := by
  unfold exG at h ⊢
  split at h
  · exact loud_op hl ag hs h
  · rename_i j want hg
    split at h
    · rename_i d hd
      have hmem : d ∈ o.looksAt ops := by
        unfold Oper.looksAt
        rw [hg]
        exact List.mem_append_right _ (by simp [hd])
      have hb' : nth s' d = nth s d := ag.s d hmem
      simp only
      split at h
      · rename_i b hb
        have h := gateW_iff.1 h
        rw [hb', hb]
        refine gateW_iff.2 ⟨fun hbw => ?_, fun hbw => ?_⟩
        · have h1 := h.1 hbw
          rw [put_same (hb.trans (by rw [hbw])) (by simp [undefA])] at h1
          rw [put_same ((hb'.trans hb).trans (by rw [hbw])) (by simp [undefA])]
          exact loud_op hl ag hs h1
        · have h1 := h.2 hbw
          rw [put_same (hb.trans (by rw [hbw])) (by simp [undefA])] at h1
          rw [put_same ((hb'.trans hb).trans (by rw [hbw])) (by simp [undefA])]
          exact JK.put hs h1
      · rename_i hb
        rw [hb', hb]
        exact JK.put hs h
      · exact h.elim
    · exact h.elim
end

def phB (ops : Array Oper) (an : List (List Nat)) : List (Nat × List Nat) → List Nat → Bool
  | [], cl => cl.all fun k => k == 0 || k == 2
  | (c, cl') :: cs, cl => cl[c]? == some 3 && cl'[c]? == some 0 && cl'.length == cl.length && (match ops[c]? with | some o => loudB o.op | none => false) &&
    ((List.range cl.length).all fun i => (cl[i]? != some 1 || (an.getD i []).contains c) && (cl[i]? != some 3 || i == c) && (cl'[i]? != some 0 || cl[i]? == some 0 || i == c || (an.getD c []).contains i) &&
      (!(cl'[i]? == some 1 || cl'[i]? == some 3) || cl[i]? == some 1)) && phB ops an cs cl'

structure PhOk (ops : Array Oper) (c : Nat) (cl cl' : List Nat) : Prop where
  me : cl[c]? = some 3
  me' : cl'[c]? = some 0
  len : cl'.length = cl.length
  loud : ∀ o, ops[c]? = some o → loudB o.op = true
  late : ∀ i : Nat, cl[i]? = some 1 → Anc ops i c
  only : ∀ i : Nat, cl[i]? = some 3 → i = c
  been : ∀ i : Nat, cl'[i]? = some 0 → cl[i]? = some 0 ∨ i = c ∨ Anc ops c i
  next : ∀ i : Nat, cl'[i]? = some 1 ∨ cl'[i]? = some 3 → cl[i]? = some 1

theorem phB_spec {ops : Array Oper} {c : Nat} {cl cl' : List Nat} {cs : List (Nat × List Nat)} (h : phB ops (ancs ops.toList) ((c, cl') :: cs) cl = true) : PhOk ops c cl cl' ∧ phB ops (ancs ops.toList) cs cl' = true := by
  have hA : ∀ j i, ((ancs ops.toList).getD j []).contains i = true → Anc ops j i := fun j i h =>
    ancs_go ops.toList [] [] (by simp) rfl (fun j i hi => by simp at hi) j i (List.contains_iff_mem.1 h)
  simp only [phB, Bool.and_eq_true, beq_iff_eq] at h
  obtain ⟨⟨⟨⟨⟨h1, h2⟩, h3⟩, h4⟩, h5⟩, h6⟩ := h
  have key : ∀ i : Nat, i < cl.length → (cl[i]? ≠ some 1 ∨ Anc ops i c) ∧ (cl[i]? ≠ some 3 ∨ i = c) ∧ (cl'[i]? ≠ some 0 ∨ cl[i]? = some 0 ∨ i = c ∨ Anc ops c i) ∧ (¬ (cl'[i]? = some 1 ∨ cl'[i]? = some 3) ∨ cl[i]? = some 1) := fun i hi => by
    have := List.all_eq_true.1 h5 i (List.mem_range.2 hi)
    simp only [Bool.and_eq_true, Bool.or_eq_true, bne_iff_ne, beq_iff_eq, Bool.not_eq_true', Bool.or_eq_false_iff, beq_eq_false_iff_ne] at this
    obtain ⟨⟨⟨k1, k2⟩, k3⟩, k4⟩ := this
    refine ⟨k1.imp id (hA i c), k2, ?_, ?_⟩
    · rcases k3 with ((k3 | k3) | k3) | k3
      · exact .inl k3
      · exact .inr (.inl k3)
      · exact .inr (.inr (.inl k3))
      · exact .inr (.inr (.inr (hA c i k3)))
    · rcases k4 with k4 | k4
      · exact .inl (fun e => e.elim k4.1 k4.2)
      · exact .inr k4
  have lt : ∀ {i k : Nat}, cl[i]? = some k → i < cl.length := fun h => (List.getElem?_eq_some_iff.1 h).1
  have lt' : ∀ {i k : Nat}, cl'[i]? = some k → i < cl.length := fun h => by rw [← h3]; exact (List.getElem?_eq_some_iff.1 h).1
  refine ⟨⟨h1, h2, h3, fun o ho => by simpa [ho] using h4, fun i hi => ((key i (lt hi)).1).resolve_left (fun e => e hi), fun i hi => ((key i (lt hi)).2.1).resolve_left (fun e => e hi),
    fun i hi => ((key i (lt' hi)).2.2.1).resolve_left (fun e => e hi), fun i hi => ((key i (hi.elim lt' lt')).2.2.2).resolve_left (fun e => e hi)⟩, h6⟩

/-- What is to be shown behind a pass. -/
def PhK (P : Program) (ops : Array Oper) (s0 : List AV) (K : AS → Prop) (cs : List (Nat × List Nat)) (cl : List Nat) (vs sv : List AV) (m : AH) : Prop := match cs with
  | [] => kFin K [] [] (puts ⟨s0, m⟩ ops.toList vs)
  | (c, cl') :: cs => kLoud P ops c (exPh P ops ops.toList s0 K cs cl') (recOf cl vs) sv (puts ⟨s0, m⟩ ops.toList vs)

section
variable {P : Program} {E : Env} {ops : Array Oper}

theorem phase_ok (hT : TabsOk P E) (hd : DrawOk ops) {s0 : List AV} (hdst : ∀ o ∈ ops.toList, ∀ d, o.dst = some d → d < s0.length) {Q : Exit → AS → Prop} :
    ∀ (fuel : Nat) (cs : List (Nat × List Nat)) (cl : List Nat) (m : AH) (vs sv : List AV) (L : Array Bool) (σ : AS) (a : Act) (w : World), phB ops (ancs ops.toList) cs cl = true →
      (∃ rec, PassD P ops ops.toList cl rec [] ⟨s0, m⟩ vs sv) →
      PhK P ops s0 (Q .normal) cs cl vs sv m →
      (∀ i k : Nat, L.getD i false = true → cl[i]? = some k → k = 0 ∨ k = 2) → (∀ i : Nat, cl[i]? = some 0 → L.getD i false = true) →
      (L.toList.filter (fun b => !b)).length ≤ fuel → JL ops vs ⟨s0, m⟩ L σ → St E σ a w → wpAny P .any ops (Lift E Q) fuel L a w := by
  have fin : ∀ (cs : List (Nat × List Nat)) (cl : List Nat) (m : AH) (vs sv : List AV) (L : Array Bool) (σ : AS) (a : Act) (w : World), phB ops (ancs ops.toList) cs cl = true →
      (∃ rec, PassD P ops ops.toList cl rec [] ⟨s0, m⟩ vs sv) →
      PhK P ops s0 (Q .normal) cs cl vs sv m →
      (∀ i k : Nat, L.getD i false = true → cl[i]? = some k → k = 0 ∨ k = 2) → JL ops vs ⟨s0, m⟩ L σ → St E σ a w → Region.ready .any ops L = [] → Lift E Q .normal a w := by
    intro cs cl m vs sv L σ a w hB ⟨rec, D⟩ hK hN J hst hr
    have hl : vs.length = ops.size := by rw [D.len]; simp
    cases cs with
    | cons p cs =>
      obtain ⟨c, cl'⟩ := p
      obtain ⟨C, _⟩ := phB_spec hB
      have hc : c < ops.size := by
        have := (List.getElem?_eq_some_iff.1 C.me).1
        have := D.cls
        simp at this
        omega
      have := hN c 3 (ready_nil hd J.size hr c hc) C.me
      omega
    | nil =>
      refine ⟨σ, hst, ?_⟩
      have h1 := J.final hd hl hr
      have := hK σ.m.nx σ.m.lv (by rw [puts_m]; exact J.nx) (by rw [puts_m]; exact J.lv)
      rw [← h1, puts_m, ← J.h, ← J.o] at this
      exact this
  intro fuel
  induction fuel with
  | zero =>
    intro cs cl m vs sv L σ a w hB D hK hN hS hc J hst
    have hr : Region.ready .any ops L = [] := by
      apply List.eq_nil_iff_forall_not_mem.2
      intro i hi
      obtain ⟨h1, h2⟩ := undone (mem_ready.1 hi).1
      rw [none_left h2 hc] at h1; cases h1
    exact ⟨hr, fin cs cl m vs sv L σ a w hB D hK hN J hst hr⟩
  | succ fuel ih =>
    intro cs cl m vs sv L σ a w hB D0 hK hN hS hc J hst
    refine ⟨fun hr => fin cs cl m vs sv L σ a w hB D0 hK hN J hst hr, fun i hi => ?_⟩
    obtain ⟨rec, D⟩ := D0
    have hl : vs.length = ops.size := by rw [D.len]; simp
    have hcl : cl.length = ops.size := by rw [D.cls]; simp
    obtain ⟨hun, o, ho, hall⟩ := mem_ready.1 hi
    obtain ⟨hun', hlt⟩ := undone hun
    have hilt := (Array.getElem?_eq_some_iff.1 ho).1
    have hv := List.getElem?_eq_getElem (l := vs) (i := i) (by omega)
    have hk := List.getElem?_eq_getElem (l := cl) (i := i) (by omega)
    have ag := J.agree hd hl ho hi
    have hol : ops.toList[i]? = some o := by simpa using ho
    have hquiet : cl[i]? = some 2 → wpOp P ops (Lift E Q) i (fun a' w' => wpAny P .any ops (Lift E Q) fuel (L.setIfInBounds i true) a' w') a w := by
      intro h2
      have key := D.yld i o _ hol hv h2 σ ag (fun τ => JL ops vs ⟨s0, m⟩ (L.setIfInBounds i true) τ) (fun nx lv g1 g2 => J.step hd ho hv hi g1 g2)
      refine wpOp_mono ?_ (exG_ok hT ho key hst)
      rintro a' w' ⟨σ', hst', J'⟩
      have hN' : ∀ j k : Nat, (L.setIfInBounds i true).getD j false = true → cl[j]? = some k → k = 0 ∨ k = 2 := fun j k hj hjk => by
        by_cases hij : i = j
        · subst hij
          rw [h2] at hjk
          cases hjk
          exact .inr rfl
        · rw [getD_set_ne false hij] at hj
          exact hN j k hj hjk
      have hS' : ∀ j : Nat, cl[j]? = some 0 → (L.setIfInBounds i true).getD j false = true := fun j hj => by
        by_cases hij : i = j
        · subst hij; rw [h2] at hj; cases hj
        · rw [getD_set_ne false hij]; exact hS j hj
      rcases J' with J' | J'
      · exact ih cs cl m vs sv _ σ' a' w' hB ⟨rec, D⟩ hK hN' hS' (count_set hlt hun hc) J' hst'
      · exact ih cs cl m vs sv _ _ a' w' hB ⟨rec, D⟩ hK hN' hS' (count_set hlt hun hc) J' (hst'.erAt o.dst)
    rcases D.kind i _ hk with h0 | h1 | h2 | h3
    · rw [h0] at hk
      rw [hS i hk] at hun'
      cases hun'
    · rw [h1] at hk
      exfalso
      cases cs with
      | nil =>
        have := List.all_eq_true.1 hB 1 (List.mem_of_getElem? hk)
        simp at this
      | cons p cs =>
        obtain ⟨c, cl'⟩ := p
        obtain ⟨C, _⟩ := phB_spec hB
        have := (C.late i hk).ready J.closed ho hall
        have := hN c 3 this C.me
        omega
    · rw [h2] at hk
      exact hquiet hk
    · rw [h3] at hk
      cases cs with
      | nil =>
        have := List.all_eq_true.1 hB 3 (List.mem_of_getElem? hk)
        simp at this
      | cons p cs =>
        obtain ⟨c, cl'⟩ := p
        obtain ⟨C, hB'⟩ := phB_spec hB
        have hic := C.only i hk
        subst hic
        unfold PhK kLoud at hK
        simp only [ho] at hK
        have hK := hK σ.m.nx σ.m.lv (by rw [puts_m]; exact J.nx) (by rw [puts_m]; exact J.lv)
        simp only [puts_m] at hK
        have em : (⟨m.h, m.o, σ.m.nx, σ.m.lv⟩ : AH) = σ.m := by
          have h1 := J.h
          have h2 := J.o
          simp only at h1 h2
          rw [← h1, ← h2]
        rw [em] at hK
        have hsv : sv = (puts ⟨s0, m⟩ (ops.toList.take i) (vs.take i)).s := by
          rcases D.sv with ⟨j, g1, g2, _⟩ | ⟨_, g2⟩
          · rw [C.only j g1] at g2; exact g2
          · exact absurd hk (g2 i)
        have hsl : sv.length = s0.length := by rw [hsv, puts_len]
        have hdo : ∀ d, o.dst = some d → d < s0.length := hdst o (List.mem_of_getElem? hol)
        have ag' : Agree ops o ⟨sv, σ.m⟩ ⟨σ.s, σ.m⟩ := ⟨fun t ht => by rw [hsv]; exact ag.s t ht, rfl, rfl⟩
        have key := loud_g (P := P) (J := fun m' v => exPh P ops ops.toList s0 (Q .normal) cs cl' ((recOf cl vs).set i (some v)) m') (C.loud o ho) ag' (fun d hdd => by rw [hsl]; exact hdo d hdd) hK
        refine wpOp_mono ?_ (exG_ok hT ho key hst)
        rintro a' w' ⟨σ', hst', v, hσ', hJ⟩
        have hrl : (recOf cl vs).length = ops.size := by rw [recOf_len (by omega)]; exact hl
        -- the next phase's pass
        have next : ∃ vs' sv', (∃ rec, PassD P ops ops.toList cl' rec [] ⟨s0, σ'.m⟩ vs' sv') ∧ (∀ (j k : Nat) (v : AV), cl'[j]? = some k → k = 0 ∨ k = 2 → ((recOf cl vs).set i (some (valN o.dst v)))[j]? = some (some v) → True) ∧
            (∀ (j k : Nat) (u : AV), cl'[j]? = some k → k = 0 ∨ k = 2 → ((recOf cl vs).set i (some (valN o.dst v)))[j]? = some (some u) → vs'[j]? = some u) ∧
            PhK P ops s0 (Q .normal) cs cl' vs' sv' σ'.m := by
          cases cs with
          | nil =>
            unfold exPh at hJ
            obtain ⟨vs', sv', D', g⟩ := pass_text _ _ _ _ _ _ (by rw [C.len, D.cls]) (fun o ho d hdd => hdst o ho d hdd) hJ
            exact ⟨vs', sv', ⟨_, D'⟩, fun _ _ _ _ _ _ => trivial, D'.rcd, by unfold PhK; exact g⟩
          | cons p cs =>
            obtain ⟨c2, cl2⟩ := p
            unfold exPh at hJ
            obtain ⟨vs', sv', D', g⟩ := pass_text _ _ _ _ _ _ (by rw [C.len, D.cls]) (fun o ho d hdd => hdst o ho d hdd) hJ
            refine ⟨vs', sv', ⟨_, D'⟩, fun _ _ _ _ _ _ => trivial, D'.rcd, ?_⟩
            unfold PhK
            simpa using g
        obtain ⟨vs', sv', D', _, hrec, hK'⟩ := next
        have hcl' : cl'.length = ops.size := by rw [C.len]; exact hcl
        have hl' : vs'.length = ops.size := by obtain ⟨_, D'⟩ := D'; rw [D'.len]; simp
        have hN' : ∀ j k : Nat, (L.setIfInBounds i true).getD j false = true → cl'[j]? = some k → k = 0 ∨ k = 2 := fun j k hj hjk => by
          obtain ⟨_, D'⟩ := D'
          rcases D'.kind j k hjk with e | e | e | e
          · exact .inl e
          · exfalso
            subst e
            have h1 := C.next j (.inl hjk)
            have hij : i ≠ j := fun e => by subst e; rw [hk] at h1; cases h1
            rw [getD_set_ne false hij] at hj
            have := hN j 1 hj h1
            omega
          · exact .inr e
          · exfalso
            subst e
            have h1 := C.next j (.inr hjk)
            have hij : i ≠ j := fun e => by subst e; rw [hk] at h1; cases h1
            rw [getD_set_ne false hij] at hj
            have := hN j 1 hj h1
            omega
        have hS' : ∀ j : Nat, cl'[j]? = some 0 → (L.setIfInBounds i true).getD j false = true := fun j hj => by
          by_cases hij : i = j
          · subst hij; simp [hlt]
          · rw [getD_set_ne false hij]
            rcases C.been j hj with h1 | h1 | h1
            · exact hS j h1
            · exact absurd h1.symm hij
            · exact h1.ready J.closed ho hall
        have Jold := J.step hd ho hv hi (nx := σ.m.nx) (lv := σ.m.lv) (Nat.le_refl _) (fun _ x => x)
        have hsame : ∀ j u, j ≠ i → L.getD j false = true → vs[j]? = some u → vs'[j]? = some u := fun j u hji hLj hu => by
          have hjl : j < ops.size := by rw [← hl]; exact (List.getElem?_eq_some_iff.1 hu).1
          have hkj := List.getElem?_eq_getElem (l := cl) (i := j) (by omega)
          have hkj' := List.getElem?_eq_getElem (l := cl') (i := j) (by omega)
          have hn := hN j _ hLj hkj
          have hn' := hN' j _ (by rw [getD_set_ne false (Ne.symm hji)]; exact hLj) hkj'
          refine hrec j _ u hkj' hn' ?_
          rw [List.getElem?_set_ne (Ne.symm hji), recOf_get hkj hu, if_neg (by omega)]
        have hme : vs'[i]? = some (valN o.dst v) := hrec i 0 _ C.me' (.inl rfl) (by rw [List.getElem?_set_self (by omega)])
        have hslots : σ'.s = (AS.put ⟨σ.s, σ'.m⟩ o.dst v).s := congrArg AS.s hσ'
        have hne : ∀ t, o.dst ≠ some t → nth σ'.s t = nth σ.s t := fun t ht => by rw [hslots]; exact put_ne ht
        refine ih cs cl' σ'.m vs' sv' _ σ' a' w' hB' D' hK' hN' hS' (count_set hlt hun hc) ⟨Jold.size, ?_, rfl, rfl, Nat.le_refl _, fun _ x => x, Jold.closed, fun j oj u d hj hu hdj hLj => ?_, fun t ht => ?_⟩ hst'
        · rw [hslots, put_len]; exact J.len
        · by_cases hij : j = i
          · subst hij
            rw [ho] at hj
            cases hj
            rw [hme] at hu
            cases hu
            rw [hslots, hdj, put_eq]
            have e1 : d < s0.length := hdo d hdj
            have e2 : d < σ.s.length := by rw [J.len]; exact e1
            simp only at e1 e2 ⊢
            rw [if_pos e2, if_pos e1]
            simp [valN]
          · rw [getD_set_ne false (Ne.symm hij)] at hLj
            have hjl := (Array.getElem?_eq_some_iff.1 hj).1
            have hvj := List.getElem?_eq_getElem (l := vs) (i := j) (by omega)
            have := hsame j _ hij hLj hvj
            rw [hu] at this
            cases this
            rw [hne d (hd.once j i oj o d hij hj ho hdj)]
            exact J.done j oj _ d hj hvj hdj hLj
        · have hti : o.dst ≠ some t := ht i o ho (by simp [hlt])
          rw [hne t hti]
          exact J.rest t (fun j oj hj hLj => ht j oj hj (by
            by_cases hij : i = j
            · subst hij; simp [hlt]
            · rw [getD_set_ne false hij]; exact hLj))

/-- A region that draws its order: the operations that write are c1, c2, ..; the lists tell of each operation what it is in each phase. -/
theorem drawnP {id : Nat} {l : List Oper} {Q : Exit → AS → Prop} {s0 : List AV} {m : AH} (cl : List Nat) (cs : List (Nat × List Nat)) (n : Nat) (hm : P.follows .mixedOrders = true) (hB : drawB l.toArray = true) (hC : phB l.toArray (ancs l) cs cl = true)
    (h2 : (cl.all (fun k => k != 0) && (cl.length == l.length) && l.all fun o => match o.dst with | some d => decide (d < n) | none => true) = true) (hn : s0.length = n)
    (h : exPh P l.toArray l s0 (Q .normal) cs cl (List.replicate cl.length none) m) : AW P E (.region id l.toArray true) Q ⟨s0, m⟩ := by
  unfold AW
  intro hT a w hst
  simp only [Bool.and_eq_true, beq_iff_eq] at h2
  obtain ⟨⟨h0, h2⟩, h3⟩ := h2
  have hdst : ∀ o ∈ l.toArray.toList, ∀ d, o.dst = some d → d < s0.length := fun o ho d hd => by
    have := List.all_eq_true.1 h3 o (by simpa using ho)
    rw [hd] at this
    rw [hn]
    simpa using this
  have hno : ∀ j, (Array.replicate l.toArray.size false).getD j false = true → False := fun j hL => by
    revert hL
    simp only [Array.getD_eq_getD_getElem?, Array.getElem?_replicate]
    split <;> simp
  have first : ∃ vs sv, (∃ rec, PassD P l.toArray l.toArray.toList cl rec [] ⟨s0, m⟩ vs sv) ∧ PhK P l.toArray s0 (Q .normal) cs cl vs sv m := by
    cases cs with
    | nil =>
      unfold exPh at h
      obtain ⟨vs, sv, D, g⟩ := pass_text _ _ _ _ _ _ h2 (fun o ho d hd => hdst o (by simpa using ho) d hd) h
      exact ⟨vs, sv, ⟨_, D⟩, by unfold PhK; exact g⟩
    | cons p cs =>
      obtain ⟨c, cl'⟩ := p
      unfold exPh at h
      obtain ⟨vs, sv, D, g⟩ := pass_text _ _ _ _ _ _ h2 (fun o ho d hd => hdst o (by simpa using ho) d hd) h
      exact ⟨vs, sv, ⟨_, D⟩, by unfold PhK; simpa using g⟩
  obtain ⟨vs, sv, D, hK⟩ := first
  refine wp_region_any hm ?_
  refine phase_ok (E := E) hT (drawB_spec hB) hdst _ cs cl m vs sv _ ⟨s0, m⟩ a _ hC D hK (fun i k hL _ => (hno i hL).elim) (fun i hi => ?_) (Nat.le_trans (List.length_filter_le _ _) (by simp)) ?_ (St.drawn hst)
  · have := List.all_eq_true.1 h0 0 (List.mem_of_getElem? hi)
    simp at this
  · exact ⟨by simp, rfl, rfl, rfl, Nat.le_refl _, fun _ x => x, fun j o hj hL => (hno j hL).elim, fun i o v d _ _ _ hL => (hno i hL).elim, fun t _ => rfl⟩
end

section
variable {P : Program}
@[congr] theorem passP_congr {ops : Array Oper} {K : List (Option AV) → List AV → AS → Prop} {l : List Oper} {cl : List Nat} {rec rec' : List (Option AV)} {sv sv' : List AV} {acc acc' : List (Option AV)} {σ σ' : AS} (h1 : rec = rec') (h2 : sv = sv') (h3 : acc = acc') (h : σ = σ') :
    passP P ops K l cl rec sv acc σ = passP P ops K l cl rec' sv' acc' σ' := by rw [h1, h2, h3, h]
@[congr] theorem exPh_congr {ops : Array Oper} {l : List Oper} {s0 : List AV} {K : AS → Prop} {cs : List (Nat × List Nat)} {cl : List Nat} {rec rec' : List (Option AV)} {m m' : AH} (h1 : rec = rec') (h : m = m') : exPh P ops l s0 K cs cl rec m = exPh P ops l s0 K cs cl rec' m' := by rw [h1, h]
@[congr] theorem kPass_congr {f : List (Option AV) → AS → Prop} {x : Option AV} {acc : List (Option AV)} {dst : Option Nat} {τ τ' : AS} (h : τ = τ') : kPass f x acc dst τ = kPass f x acc dst τ' := by rw [h]
@[congr] theorem kLoud_congr {ops : Array Oper} {c : Nat} {f : List (Option AV) → AH → Prop} {vals vals' : List (Option AV)} {sv sv' : List AV} {τ τ' : AS} (h1 : vals = vals') (h2 : sv = sv') (h : τ = τ') : kLoud P ops c f vals sv τ = kLoud P ops c f vals' sv' τ' := by rw [h1, h2, h]
@[congr] theorem kNext_congr {f : List (Option AV) → AH → Prop} {vals : List (Option AV)} {c : Nat} {dst : Option Nat} {τ τ' : AS} (h : τ = τ') : kNext f vals c dst τ = kNext f vals c dst τ' := by rw [h]
@[congr] theorem kFin_congr {K : AS → Prop} {x x' : List (Option AV)} {y y' : List AV} {τ τ' : AS} (h1 : x = x') (h2 : y = y') (h : τ = τ') : kFin K x y τ = kFin K x' y' τ' := by rw [h1, h2, h]
variable {ops : Array Oper} {K : List (Option AV) → List AV → AS → Prop} {o : Oper} {r : List Oper} {cl : List Nat} {rec acc : List (Option AV)} {sv : List AV} {σ : AS}
theorem passP_0 {v : AV} : passP P ops K (o :: r) (0 :: cl) (some v :: rec) sv acc σ = passP P ops K r cl rec sv (some v :: acc) (σ.put o.dst v) := (rfl)
theorem passP_1 {x : Option AV} : passP P ops K (o :: r) (1 :: cl) (x :: rec) sv acc σ = passP P ops K r cl rec sv (none :: acc) (σ.put o.dst undefA) := (rfl)
theorem passP_3 {x : Option AV} : passP P ops K (o :: r) (3 :: cl) (x :: rec) sv acc σ = passP P ops K r cl rec σ.s (none :: acc) (σ.put o.dst undefA) := (rfl)
theorem passP_2 {x : Option AV} : passP P ops K (o :: r) (2 :: cl) (x :: rec) sv acc σ = exGD P ops o σ (kPass (passP P ops K r cl rec sv) x acc o.dst) := (rfl)
theorem passP_nil : passP P ops K [] cl rec sv acc σ = K acc.reverse sv σ := by cases cl <;> cases rec <;> rfl
theorem kPass_eq {f : List (Option AV) → AS → Prop} {x : Option AV} {dst : Option Nat} : kPass f x acc dst σ = (sameV x (valD dst σ) ∧ f (some (valD dst σ) :: acc) σ) := (rfl)
theorem kNext_eq {f : List (Option AV) → AH → Prop} {vals : List (Option AV)} {c : Nat} {dst : Option Nat} : kNext f vals c dst σ = f (vals.set c (some (valD dst σ))) σ.m := (rfl)
theorem kFin_eq {K : AS → Prop} {x : List (Option AV)} {y : List AV} : kFin K x y σ = (∀ nx lv, σ.m.nx ≤ nx → (∀ j, σ.m.lv j → lv j) → K ⟨σ.s, ⟨σ.m.h, σ.m.o, nx, lv⟩⟩) := (rfl)
theorem kLoud_eq {c : Nat} {f : List (Option AV) → AH → Prop} {vals : List (Option AV)} : kLoud P ops c f vals sv σ = (match ops[c]? with
  | some o => ∀ nx lv, σ.m.nx ≤ nx → (∀ j, σ.m.lv j → lv j) → exG P ops o ⟨sv, ⟨σ.m.h, σ.m.o, nx, lv⟩⟩ (kNext f vals c o.dst)
  | none => False) := (rfl)
theorem exPh_nil {l : List Oper} {s0 : List AV} {K : AS → Prop} {m : AH} : exPh P ops l s0 K [] cl rec m = passP P ops (kFin K) l cl rec [] [] ⟨s0, m⟩ := (rfl)
theorem exPh_cons {l : List Oper} {s0 : List AV} {K : AS → Prop} {m : AH} {c : Nat} {cl' : List Nat} {cs : List (Nat × List Nat)} : exPh P ops l s0 K ((c, cl') :: cs) cl rec m = passP P ops (kLoud P ops c (exPh P ops l s0 K cs cl')) l cl rec [] [] ⟨s0, m⟩ := (rfl)
end
attribute [irreducible] passP exPh
attribute [go_sem] passP_0 passP_1 passP_2 passP_3 passP_nil kPass_eq kNext_eq kFin_eq kLoud_eq exPh_nil exPh_cons sameV valD List.reverse_cons List.reverse_nil List.set_cons_zero List.set_cons_succ List.reverseAux

end Go.AB
