/- Regions, branches, loops, and a function's body, on abstract states. -/
import Derived.Test.YtaieadcnhlapdaaDoorB110
import Derived.Orders
import Derived.Attr
namespace Go.AB

def exG (P : Program) (ops : Array Oper) (o : Oper) (σ : AS) (K : AS → Prop) : Prop := match o.guard with
  | none => exOp P o σ K
  | some (j, want) => match (ops[j]?).bind (·.dst) with
    | some d => (match nth σ.s d with
      | .bool b => gateW want b (exOp P o (σ.put (some d) (.bool want)) K) (K ((σ.put (some d) (.bool !want)).put o.dst undefA))
      | .raw (.tuple _) => K (σ.put o.dst undefA)
      | _ => False)
    | none => False

def kOps (f : AS → (AS → Prop) → Prop) (K : AS → Prop) (σ : AS) : Prop := f σ K

def exOps (P : Program) (ops : Array Oper) : List Oper → AS → (AS → Prop) → Prop
  | [], σ, K => K σ
  | o :: r, σ, K => exG P ops o σ (kOps (exOps P ops r) K)

/-- What holds of a real state, as something of an abstract one. -/
def Lift (E : Env) (Q : Exit → AS → Prop) : Exit → Act → World → Prop := fun e a w => ∃ σ, St E σ a w ∧ Q e σ

theorem yielded_of {E : Env} {σ : AS} {a : Act} {w : World} {ops : Array Oper} {j d : Nat} (hst : St E σ a w) (hd : (ops[j]?).bind (·.dst) = some d) :
    (∀ b, nth σ.s d = .bool b → yielded ops a.tmps j = some b) ∧ (∀ vs, nth σ.s d = .raw (.tuple vs) → yielded ops a.tmps j = none) := by
  obtain ⟨G, hi, hs, hdf, hr⟩ := hst
  have hrd := hr d
  have hy : yielded ops a.tmps j = match a.tmps[d]? with | some (.bool b) => some b | _ => none := by
    simp only [yielded, hd, Option.bind_some]
    rfl
  constructor
  · intro b hb
    rw [hb] at hrd
    rw [hy]
    cases hx : a.tmps[d]? with
    | none => rw [Array.getD_eq_getD_getElem?, hx] at hrd; simp only [Option.getD_none, undef] at hrd; cases hrd
    | some x =>
      rw [Array.getD_eq_getD_getElem?, hx] at hrd
      simp only [Option.getD_some] at hrd
      cases hrd; rfl
  · intro vs hb
    rw [hb] at hrd
    rw [hy]
    cases hx : a.tmps[d]? with
    | none => rfl
    | some x =>
      rw [Array.getD_eq_getD_getElem?, hx] at hrd
      simp only [Option.getD_some] at hrd
      cases hrd; rfl

theorem skip_st {E : Env} {σ : AS} {a : Act} {w : World} (dst : Option Nat) (hst : St E σ a w) : St E (σ.put dst undefA) (a.put dst undef) w := by
  obtain ⟨G, hi, hs, hdf, hr⟩ := hst
  exact St.step hs hdf hr (Ext.refl G w) hi (.raw _)

theorem put_same {σ : AS} {d : Nat} {v : AV} (h : nth σ.s d = v) (hv : v ≠ undefA) : σ.put (some d) v = σ := by
  have hd : d < σ.s.length := by
    rcases Nat.lt_or_ge d σ.s.length with hd | hd
    · exact hd
    · rw [nth_ge hd] at h; exact absurd h.symm hv
  have h2 := nth_lt hd
  rw [h] at h2
  obtain ⟨s, m⟩ := σ
  simp only [AS.put]
  congr 1
  apply List.ext_getElem?
  intro i
  by_cases hi : d = i
  · subst hi; rw [List.getElem?_set_self hd]; exact h2.symm
  · rw [List.getElem?_set_ne hi]

theorem exOps_ok {P : Program} {E : Env} {ops : Array Oper} {K : AS → Prop} {Q : Exit → Act → World → Prop} (hT : TabsOk P E) (hQ : ∀ σ a w, St E σ a w → K σ → Q .normal a w) :
    ∀ (l : List Oper) (k : Nat) (σ : AS) (a : Act) (w : World), ops.toList.drop k = l → exOps P ops l σ K → St E σ a w → wpOps P ops Q (List.range' k l.length) a w
  | [], k, σ, a, w, _, h, hst => by simpa [wpOps] using hQ σ a w hst h
  | o :: r, k, σ, a, w, hk, h, hst => by
    have hok : ops[k]? = some o := by
      have := congrArg (·[0]?) hk
      simpa using this
    have hr : ops.toList.drop (k + 1) = r := by
      have := congrArg (List.drop 1) hk
      simpa [List.drop_drop, Nat.add_comm] using this
    rw [List.length_cons, List.range'_succ, wpOps]
    simp only [hok]
    simp only [exOps, exG] at h
    have cont : ∀ σ' a' w', St E σ' a' w' → exOps P ops r σ' K → wpOps P ops Q (List.range' (k + 1) r.length) a' w' := fun σ' a' w' h1 h2 => exOps_ok hT hQ r (k + 1) σ' a' w' hr h2 h1
    split at h
    · rename_i hg
      have hw : Region.wanted o (yielded ops a.tmps) = true := by simp [Region.wanted, hg]
      rw [if_pos hw]
      left
      exact Oper.wp_mono (fun a' w' ⟨σ', h1, h2⟩ => cont σ' a' w' h1 h2) (exOp_ok hT h hst Q)
    · rename_i j want hg
      split at h
      · rename_i d hd
        obtain ⟨y1, y2⟩ := yielded_of hst hd
        split at h
        · rename_i b hb
          have h := gateW_iff.1 h
          have hy := y1 b hb
          by_cases hbw : b = want
          · have hw : Region.wanted o (yielded ops a.tmps) = true := by simp [Region.wanted, hg, hy, hbw]
            rw [if_pos hw]
            left
            have h1 := h.1 hbw
            rw [put_same (hb.trans (by rw [hbw])) (by simp [undefA])] at h1
            exact Oper.wp_mono (fun a' w' ⟨σ', h1, h2⟩ => cont σ' a' w' h1 h2) (exOp_ok hT h1 hst Q)
          · have hbw2 : b = !want := by cases b <;> cases want <;> simp_all
            have hw : ¬ Region.wanted o (yielded ops a.tmps) = true := by simp [Region.wanted, hg, hy, hbw]
            rw [if_neg hw]
            have h2 := h.2 hbw2
            rw [put_same (hb.trans (by rw [hbw2])) (by simp [undefA])] at h2
            exact cont _ _ _ (skip_st o.dst hst) h2
        · rename_i vs hb
          have hy := y2 vs hb
          have hw : ¬ Region.wanted o (yielded ops a.tmps) = true := by simp [Region.wanted, hg, hy]
          rw [if_neg hw]
          exact cont _ _ _ (skip_st o.dst hst) h
        · exact h.elim
      · exact h.elim

def AW (P : Program) (E : Env) (c : Code) (Q : Exit → AS → Prop) (σ : AS) : Prop := TabsOk P E → ∀ a w, St E σ a w → c.wp P (Lift E Q) a w

def thenQ (f : AS → Prop) (Q : Exit → AS → Prop) : Exit → AS → Prop
  | .normal, σ => f σ
  | e, σ => Q e σ

def blockQ (id : Nat) (Q : Exit → AS → Prop) : Exit → AS → Prop
  | .exit id', σ => if id' = id then Q .normal σ else Q (.exit id') σ
  | e, σ => Q e σ

def kCode (f : AS → (Exit → AS → Prop) → Prop) (Q : Exit → AS → Prop) (σ : AS) : Prop := f σ Q

def exC (P : Program) (E : Env) : Code → AS → (Exit → AS → Prop) → Prop
  | .skip, σ, Q => Q .normal σ
  | .region id ops draw, σ, Q => match draw with
    | false => exOps P ops ops.toList σ (Q .normal)
    | true => AW P E (.region id ops true) Q σ
  | .seq a b, σ, Q => exC P E a σ (thenQ (kCode (exC P E b) Q) Q)
  | .cond c a b, σ, Q => match σ.ev P 0 c with
    | .bool t => (t = true → exC P E a σ Q) ∧ (t = false → exC P E b σ Q)
    | _ => False
  | .block id c, σ, Q => exC P E c σ (blockQ id Q)
  | .exit id, σ, Q => Q (.exit id) σ
  | .ret, σ, Q => Q .ret σ
  | c, σ, Q => AW P E c Q σ

theorem exC_ok {P : Program} {E : Env} : ∀ (c : Code) (σ : AS) (Q : Exit → AS → Prop), exC P E c σ Q → AW P E c Q σ
  | .skip, σ, Q, h => fun _ a w hst => wp_skip ⟨σ, hst, h⟩
  | .region id ops draw, σ, Q, h => by
    cases draw with
    | true => exact h
    | false =>
      intro hT a w hst
      refine wp_region ?_
      have := exOps_ok (P := P) (E := E) (ops := ops) (K := Q .normal) (Q := Lift E Q) hT (fun σ' a' w' h1 h2 => ⟨σ', h1, h2⟩) ops.toList 0 σ a w (by simp) h hst
      rwa [Array.length_toList, ← List.range_eq_range'] at this
  | .seq x y, σ, Q, h => fun hT a w hst => by
    have hx := exC_ok x σ _ h hT a w hst
    refine wp_seq (wp_mono hx ?_)
    rintro e a' w' ⟨σ', h1, h2⟩
    cases e with
    | normal => exact exC_ok y σ' Q h2 hT a' w' h1
    | _ => exact ⟨σ', h1, h2⟩
  | .cond c x y, σ, Q, h => fun hT a w hst => by
    simp only [exC] at h
    split at h
    · rename_i t ht
      obtain ⟨G, hi, hs, hd, hr⟩ := hst
      have hc := ev_rep (P := P) hr 0 c
      rw [ht] at hc
      have hv : a.eval c = .bool t := by
        generalize a.eval c = v at hc
        cases hc; rfl
      have hst : St E σ a w := ⟨G, hi, hs, hd, hr⟩
      exact wp_cond_split hv (fun e => exC_ok x σ Q (h.1 e) hT a w hst) (fun e => exC_ok y σ Q (h.2 e) hT a w hst)
    · exact h.elim
  | .block id c, σ, Q, h => fun hT a w hst => by
    refine wp_block (wp_mono (exC_ok c σ _ h hT a w hst) ?_)
    rintro e a' w' ⟨σ', h1, h2⟩
    cases e with
    | exit id' =>
      simp only [blockQ] at h2
      simp only [Exit.inBlock]
      by_cases hid : id' = id
      · rw [if_pos hid] at h2 ⊢; exact ⟨σ', h1, h2⟩
      · rw [if_neg hid] at h2 ⊢; exact ⟨σ', h1, h2⟩
    | _ => exact ⟨σ', h1, h2⟩
  | .exit id, σ, Q, h => fun _ a w hst => wp_exit ⟨σ, hst, h⟩
  | .ret, σ, Q, h => fun _ a w hst => wp_ret ⟨σ, hst, h⟩
  | .loop c, σ, Q, h => h
  | .rangeFunc .., σ, Q, h => h
  | .scope .., σ, Q, h => h
  | .label .., σ, Q, h => h
  | .goto .., σ, Q, h => h
  | .refuse .., σ, Q, h => h

theorem AW_mono {P : Program} {E : Env} {c : Code} {Q Q' : Exit → AS → Prop} {σ : AS} (h : AW P E c Q σ) (hq : ∀ e σ, Q e σ → Q' e σ) : AW P E c Q' σ :=
  fun hT a w hst => wp_mono (h hT a w hst) fun e _ _ ⟨σ', h1, h2⟩ => ⟨σ', h1, hq e σ' h2⟩

/-- A loop: a relation at each round's head, and a measure. -/
theorem AW_loop {P : Program} {E : Env} {c : Code} {Q : Exit → AS → Prop} {σ : AS} {α : Type} (I : α → AS → Prop) (μ : α → Nat) (x0 : α) (h0 : I x0 σ)
    (round : ∀ x σ, I x σ → AW P E c (thenQ (fun σ' => ∃ y, I y σ' ∧ μ y < μ x) Q) σ) : AW P E (.loop c) Q σ := by
  intro hT a w hst
  have key : ∀ n x σ a w, μ x = n → I x σ → St E σ a w → ∀ (b : Frame) (k : List Item) (cs : List Frame), ∃ e a' w', Lift E Q e a' w' ∧ Arrives P (lone (b.at a (.code c :: .inLoop c :: k)) cs w) b k cs e a' w' := by
    intro n
    induction n using Nat.strongRecOn with
    | _ n ih =>
      intro x σ a w hn hI hst b k cs
      obtain ⟨e, a1, w1, hq, harr⟩ := round x σ hI hT a w hst b (.inLoop c :: k) cs
      obtain ⟨σ1, hst1, hq⟩ := hq
      cases e with
      | normal =>
        obtain ⟨y, hI1, hlt⟩ := hq
        obtain ⟨e2, a2, w2, hq2, harr2⟩ := ih (μ y) (hn ▸ hlt) y σ1 a1 w1 rfl hI1 hst1 b k cs
        exact ⟨e2, a2, w2, hq2, .of_steps (Steps.trans harr (.one step_inLoop)) harr2⟩
      | exit id => exact ⟨_, a1, w1, ⟨σ1, hst1, hq⟩, .pass (x := .inLoop c) rfl (fun _ _ => .inl (by simp)) harr⟩
      | goto l => exact ⟨_, a1, w1, ⟨σ1, hst1, hq⟩, .pass (x := .inLoop c) rfl (fun _ _ => .inl (by simp)) harr⟩
      | ret => exact ⟨_, a1, w1, ⟨σ1, hst1, hq⟩, .pass (x := .inLoop c) rfl (fun _ _ => .inl (by simp)) harr⟩
      | panic ch => exact ⟨_, a1, w1, ⟨σ1, hst1, hq⟩, .pass (x := .inLoop c) rfl (fun _ _ => .inl (by simp)) harr⟩
      | outgrown => exact ⟨_, a1, w1, ⟨σ1, hst1, hq⟩, .pass (x := .inLoop c) rfl (fun _ _ => .inl (by simp)) harr⟩
  intro b k cs
  obtain ⟨e, a', w', hq, harr⟩ := key _ x0 σ a w rfl h0 hst b k cs
  exact ⟨e, a', w', hq, .of_steps (.one step_loop) harr⟩

/-- What a function hands back. -/
def kCons (v : AV) (K : List AV → Prop) (vs : List AV) : Prop := K (v :: vs)
def kRes (f : (List AV → Prop) → Prop) (K : List AV → Prop) (v : AV) : Prop := f (kCons v K)

def resK (P : Program) (σ : AS) : List ResultVar → (List AV → Prop) → Prop
  | [], K => K []
  | .tmp t :: r, K => resK P σ r (kCons (nth σ.s t) K)
  | .cell a t :: r, K => exLoad P σ.m t (nth σ.s a) (kRes (resK P σ r) K)

def resV : List AV → AV
  | [v] => v
  | vs => .tup vs

def kBody (R : AH → AV → Prop) (m : AH) (vs : List AV) : Prop := port (resV vs) = true ∧ R m (resV vs)

def bodyQ (P : Program) (rs : List ResultVar) (R : AH → AV → Prop) : Exit → AS → Prop
  | .normal, σ => resK P σ rs (kBody R σ.m)
  | .ret, σ => resK P σ rs (kBody R σ.m)
  | _, _ => False

theorem resK_ok {P : Program} {E : Env} {G : Gh} {σ : AS} {w : World} {tmps : Array Value} (hi : Inv E G σ.m w) (hr : ∀ t, RepA G w (nth σ.s t) (tmps.getD t undef)) : ∀ (rs : List ResultVar) (K : List AV → Prop), resK P σ rs K →
    ∃ (us : List Value) (vs : List AV), (rs.mapM fun (x : ResultVar) => (match x with | .tmp t => pure (tmps.getD t undef) | .cell a t => do loadVar t (← asAddr (tmps.getD a undef)) : Sem Value)).run P w = .ok us w ∧ RepArgs G w vs us ∧ K vs
  | [], K, h => ⟨[], [], by simp, ⟨rfl, by simp⟩, h⟩
  | .tmp t :: r, K, h => by
    obtain ⟨us, vs, h1, h2, h3⟩ := resK_ok hi hr r _ h
    refine ⟨tmps.getD t undef :: us, nth σ.s t :: vs, ?_, ⟨by simp [h2.1], fun i a v ha hv => ?_⟩, h3⟩
    · rw [List.mapM_cons, Sem.run_bind]
      simp only [Sem.run_pure, Result.andThen_ok]
      rw [Sem.run_bind, h1]
      rfl
    · cases i with
      | zero => simp at ha; rw [← ha]; simp only [List.getElem?_cons_zero, Option.some.injEq] at hv; rw [← hv]; exact hr t
      | succ i => exact h2.2 i a v (by simpa using ha) (by simpa using hv)
  | .cell p t :: r, K, h => by
    obtain ⟨v, y, g1, g2, g3⟩ := exLoad_ok h hi (hr p)
    obtain ⟨us, vs, h1, h2, h3⟩ := resK_ok hi hr r _ g3
    have hrun : (do loadVar t (← asAddr (tmps.getD p undef)) : Sem Value).run P w = .ok y w := by
      have hp := hr p
      generalize tmps.getD p undef = pv at g1 hp ⊢
      unfold resK exLoad at h
      generalize nth σ.s p = av at hp h
      cases hp with
      | ptr l off b o hb h0 => simpa [Instr.loadAt, Instr.sureAddr, asAddr] using g1
      | ept cs b o hb => simpa [Instr.loadAt, Instr.sureAddr, asAddr] using g1
      | _ => exact h.elim
    refine ⟨y :: us, v :: vs, ?_, ⟨by simp [h2.1], fun i a u ha hu => ?_⟩, h3⟩
    · rw [List.mapM_cons, Sem.run_bind, hrun]
      simp only [Result.andThen_ok]
      rw [Sem.run_bind, h1]
      rfl
    · cases i with
      | zero => simp at ha hu; rw [← ha, ← hu]; exact g2
      | succ i => exact h2.2 i a u (by simpa using ha) (by simpa using hu)

theorem resV_rep {G : Gh} {w : World} {vs : List AV} {us : List Value} (h : RepArgs G w vs us) : RepA G w (resV vs) (if hs : us.toArray.size = 1 then us.toArray[0] else .tuple us.toArray) := by
  obtain ⟨h1, h2⟩ := h
  match vs, us, h1 with
  | [v], [u], _ => exact h2 0 v u rfl rfl
  | [], [], _ => exact .tup [] [] rfl (by simp)
  | v :: v2 :: vs, u :: u2 :: us, hl => exact .tup _ (u :: u2 :: us) hl h2

/-- A function's body, once for all worlds. -/
theorem PCall.of_body {P : Program} {f : Nat} {fn : Func} {c : Code} {as : List AV} {R : AH → AV → Prop} {n : Nat} {rs : List ResultVar} (hf : P.funcs[f]? = some fn) (hb : fn.body = some c) (hn : fn.ntmps = n) (hrs : fn.results.toList = rs)
    (h : ∀ E, exC P E c ⟨as ++ List.replicate (n - as.length) undefA, emptyH⟩ (bodyQ P rs R)) : PCall P f as R := by
  subst hn hrs
  unfold PCall
  intro st w vs hlaid hst hrep
  refine calls_of_wp hf hb ?_
  let E : Env := ⟨w, fun _ => False, gh0 st⟩
  have hInv : Inv E (gh0 st) emptyH w := by
    refine ⟨⟨rfl, rfl, rfl, Nat.le_refl _, fun _ _ _ => rfl⟩, fun l cs hc => ?_, fun _ _ _ => rfl, fun i hi => hi.elim, fun i hi => hi.elim, rfl, fun b hb => ⟨rfl, fun j hs => ?_⟩, Ext.refl _ _, fun b o hs _ => .inl hs⟩
    · cases l <;> simp [emptyH, AH.cells, hget] at hc
    · have := hst b j hs; omega
  have hSt : St E ⟨as ++ List.replicate (fn.ntmps - as.length) undefA, emptyH⟩ { tmps := vs.toArray ++ Array.replicate (fn.ntmps - vs.toArray.size) undef, defers := [] } w := by
    refine ⟨gh0 st, hInv, by simp [hrep.1], rfl, fun t => ?_⟩
    by_cases ht : t < as.length
    · have h1 := List.getElem?_eq_getElem ht
      have h2 : t < vs.length := by rw [hrep.1]; exact ht
      have e1 : nth (as ++ List.replicate (fn.ntmps - as.length) undefA) t = as[t] := by
        have := nth_lt (l := as ++ List.replicate (fn.ntmps - as.length) undefA) (n := t) (by simp; omega)
        rw [List.getElem?_append_left ht, h1] at this
        exact (Option.some.inj this).symm
      have e2 : (vs.toArray ++ Array.replicate (fn.ntmps - vs.toArray.size) undef).getD t undef = vs[t] := by
        rw [Array.getD_eq_getD_getElem?, Array.getElem?_append_left (by simpa using h2)]
        simp [h2]
      rw [e1, e2]
      exact hrep.2 t _ _ h1 (List.getElem?_eq_getElem h2)
    · have e1 : nth (as ++ List.replicate (fn.ntmps - as.length) undefA) t = undefA := by
        by_cases ht2 : t < (as ++ List.replicate (fn.ntmps - as.length) undefA).length
        · have := nth_lt ht2
          rw [List.getElem?_append_right (by omega), List.getElem?_replicate] at this
          split at this
          · exact (Option.some.inj this).symm
          · cases this
        · exact nth_ge (by omega)
      have e2 : (vs.toArray ++ Array.replicate (fn.ntmps - vs.toArray.size) undef).getD t undef = undef := by
        rw [Array.getD_eq_getD_getElem?, Array.getElem?_append_right (by simp [hrep.1]; omega), Array.getElem?_replicate]
        split <;> rfl
      rw [e1, e2]
      exact .raw _
  refine wp_mono (exC_ok c _ _ (h E) hlaid.kept _ _ hSt) ?_
  rintro e a' w' ⟨σ, ⟨G, hi, hs, hd, hr⟩, hq⟩
  have fin : resK P σ fn.results.toList (kBody R σ.m) → a'.defers = [] ∧ ∃ v, (results fn a'.tmps).run P w' = .ok v w' ∧ ∃ v2 r G' m', Ending.returned v = .returned v2 ∧ Inv E G' m' w' ∧ RepA G' w' r v2 ∧ port r = true ∧ R m' r := by
    intro hk
    obtain ⟨us, rs, h1, h2, h3, h4⟩ := resK_ok hi hr _ _ hk
    refine ⟨hd, _, ?_, _, _, G, σ.m, rfl, hi, resV_rep h2, h3, h4⟩
    have h5 : (fn.results.mapM fun (x : ResultVar) => (match x with | .tmp t => pure (a'.tmps.getD t undef) | .cell a t => do loadVar t (← asAddr (a'.tmps.getD a undef)) : Sem Value)).run P w' = .ok us.toArray w' := by
      rw [← Array.toList_mapM, Sem.run_map] at h1
      cases hm : (fn.results.mapM fun (x : ResultVar) => (match x with | .tmp t => pure (a'.tmps.getD t undef) | .cell a t => do loadVar t (← asAddr (a'.tmps.getD a undef)) : Sem Value)).run P w' with
      | ok a w2 =>
        rw [hm] at h1
        simp only [Result.andThen_ok, Result.ok.injEq] at h1
        obtain ⟨e1, rfl⟩ := h1
        congr 1
        apply Array.ext'
        simp [e1]
      | halt x w2 => rw [hm] at h1; cases h1
    unfold results
    rw [Sem.run_bind]
    erw [h5]
    rfl
  cases e with
  | normal => exact fin hq
  | ret => exact fin hq
  | _ => exact hq.elim

def kBodyW (R : AH → AV → Prop) (m : AH) (vs : List AV) : Prop := R m (resV vs)

def bodyQW (P : Program) (rs : List ResultVar) (R : AH → AV → Prop) : Exit → AS → Prop
  | .normal, σ => resK P σ rs (kBodyW R σ.m)
  | .ret, σ => resK P σ rs (kBodyW R σ.m)
  | _, _ => False

/-- The body of a function that may write what it is handed. -/
theorem QCall.of_body {P : Program} {f : Nat} {fn : Func} {c : Code} {m0 : AH} {as : List AV} {R : AH → AV → Prop} {n : Nat} {rs : List ResultVar} (hf : P.funcs[f]? = some fn) (hb : fn.body = some c) (hn : fn.ntmps = n) (hrs : fn.results.toList = rs)
    (h : ∀ E, exC P E c ⟨as ++ List.replicate (n - as.length) undefA, m0⟩ (bodyQW P rs R)) : QCall P f m0 as R := by
  subst hn hrs
  unfold QCall
  intro E G0 w vs hT hw0 hg0 hInv hrep
  refine calls_of_wp hf hb ?_
  have hSt : St E ⟨as ++ List.replicate (fn.ntmps - as.length) undefA, m0⟩ { tmps := vs.toArray ++ Array.replicate (fn.ntmps - vs.toArray.size) undef, defers := [] } w := by
    refine ⟨G0, hInv, by simp [hrep.1], rfl, fun t => ?_⟩
    by_cases ht : t < as.length
    · have h1 := List.getElem?_eq_getElem ht
      have h2 : t < vs.length := by rw [hrep.1]; exact ht
      have e1 : nth (as ++ List.replicate (fn.ntmps - as.length) undefA) t = as[t] := by
        have := nth_lt (l := as ++ List.replicate (fn.ntmps - as.length) undefA) (n := t) (by simp; omega)
        rw [List.getElem?_append_left ht, h1] at this
        exact (Option.some.inj this).symm
      have e2 : (vs.toArray ++ Array.replicate (fn.ntmps - vs.toArray.size) undef).getD t undef = vs[t] := by
        rw [Array.getD_eq_getD_getElem?, Array.getElem?_append_left (by simpa using h2)]
        simp [h2]
      rw [e1, e2]
      exact hrep.2 t _ _ h1 (List.getElem?_eq_getElem h2)
    · have e1 : nth (as ++ List.replicate (fn.ntmps - as.length) undefA) t = undefA := by
        by_cases ht2 : t < (as ++ List.replicate (fn.ntmps - as.length) undefA).length
        · have := nth_lt ht2
          rw [List.getElem?_append_right (by omega), List.getElem?_replicate] at this
          split at this
          · exact (Option.some.inj this).symm
          · cases this
        · exact nth_ge (by omega)
      have e2 : (vs.toArray ++ Array.replicate (fn.ntmps - vs.toArray.size) undef).getD t undef = undef := by
        rw [Array.getD_eq_getD_getElem?, Array.getElem?_append_right (by simp [hrep.1]; omega), Array.getElem?_replicate]
        split <;> rfl
      rw [e1, e2]
      exact .raw _
  refine wp_mono (exC_ok c _ _ (h E) hT _ _ hSt) ?_
  rintro e a' w' ⟨σ, ⟨G, hi, hs, hd, hr⟩, hq⟩
  have fin : resK P σ fn.results.toList (kBodyW R σ.m) → a'.defers = [] ∧ ∃ v, (results fn a'.tmps).run P w' = .ok v w' ∧ ∃ v2 r G' m', Ending.returned v = .returned v2 ∧ Inv E G' m' w' ∧ RepA G' w' r v2 ∧ R m' r := by
    intro hk
    obtain ⟨us, rs, h1, h2, h4⟩ := resK_ok hi hr _ _ hk
    refine ⟨hd, _, ?_, _, _, G, σ.m, rfl, hi, resV_rep h2, h4⟩
    have h5 : (fn.results.mapM fun (x : ResultVar) => (match x with | .tmp t => pure (a'.tmps.getD t undef) | .cell a t => do loadVar t (← asAddr (a'.tmps.getD a undef)) : Sem Value)).run P w' = .ok us.toArray w' := by
      rw [← Array.toList_mapM, Sem.run_map] at h1
      cases hm : (fn.results.mapM fun (x : ResultVar) => (match x with | .tmp t => pure (a'.tmps.getD t undef) | .cell a t => do loadVar t (← asAddr (a'.tmps.getD a undef)) : Sem Value)).run P w' with
      | ok a w2 =>
        rw [hm] at h1
        simp only [Result.andThen_ok, Result.ok.injEq] at h1
        obtain ⟨e1, rfl⟩ := h1
        congr 1
        apply Array.ext'
        simp [e1]
      | halt x w2 => rw [hm] at h1; cases h1
    unfold results
    rw [Sem.run_bind]
    erw [h5]
    rfl
  cases e with
  | normal => exact fin hq
  | ret => exact fin hq
  | _ => exact hq.elim

section
variable {P : Program} {E : Env} {σ : AS} {Q : Exit → AS → Prop} {K : AS → Prop}
@[go_sem] theorem exC_skip : exC P E .skip σ Q = Q .normal σ := (rfl)
@[go_sem] theorem exC_region {id : Nat} {ops : Array Oper} : exC P E (.region id ops false) σ Q = exOps P ops ops.toList σ (Q .normal) := (rfl)
@[go_sem] theorem exC_draw {id : Nat} {ops : Array Oper} : exC P E (.region id ops true) σ Q = AW P E (.region id ops true) Q σ := (rfl)
@[go_sem] theorem exC_seq {a b : Code} : exC P E (.seq a b) σ Q = exC P E a σ (thenQ (kCode (exC P E b) Q) Q) := (rfl)
def condK (v : AV) (x y : Prop) : Prop := match v with
  | .bool t => (t = true → x) ∧ (t = false → y)
  | _ => False
@[go_sem] theorem condK_bool {t : Bool} {x y : Prop} : condK (.bool t) x y = gate t x y := (rfl)
theorem exC_cond {c : Operand} {a b : Code} : exC P E (.cond c a b) σ Q = condK (σ.ev P 0 c) (exC P E a σ Q) (exC P E b σ Q) := by
  simp only [exC]
  generalize σ.ev P 0 c = v
  cases v <;> rfl
@[congr] theorem condK_congr {v v' : AV} {x y : Prop} (h : v = v') : condK v x y = condK v' x y := by rw [h]
@[go_sem] theorem exC_block {id : Nat} {c : Code} : exC P E (.block id c) σ Q = exC P E c σ (blockQ id Q) := (rfl)
@[go_sem] theorem exC_exit {id : Nat} : exC P E (.exit id) σ Q = Q (.exit id) σ := (rfl)
@[go_sem] theorem exC_ret : exC P E .ret σ Q = Q .ret σ := (rfl)
@[go_sem] theorem exC_loop {c : Code} : exC P E (.loop c) σ Q = AW P E (.loop c) Q σ := (rfl)
@[go_sem] theorem exC_scope {c : Code} : exC P E (.scope c) σ Q = AW P E (.scope c) Q σ := (rfl)
@[go_sem] theorem exOps_nil {ops : Array Oper} : exOps P ops [] σ K = K σ := (rfl)
@[go_sem] theorem exOps_cons {ops : Array Oper} {o : Oper} {r : List Oper} : exOps P ops (o :: r) σ K = exG P ops o σ (kOps (exOps P ops r) K) := (rfl)
end
attribute [go_sem] exC_cond
attribute [irreducible] exC exOps exG AW

end Go.AB
