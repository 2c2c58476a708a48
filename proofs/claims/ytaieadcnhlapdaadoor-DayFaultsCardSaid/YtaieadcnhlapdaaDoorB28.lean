/- Regions that draw their order, with operations that write among them, of which several may come next: a tree of phases. -/
import Derived.Test.YtaieadcnhlapdaaDoorB27
namespace Go.AB

/-- A tree of phases: behind a pass one of several operations may come, each with the classes that hold behind it. -/
inductive PT
  | fin : PT
  | nil : PT
  | alt : Nat → List Nat → PT → PT → PT

def svGet : List (Nat × List AV) → Nat → List AV
  | (i, s) :: r, k => if i = k then s else svGet r k
  | [], _ => []

/-- As passP; the classes from 3 on name the operations that may come next. -/
def passT (P : Program) (ops : Array Oper) (K : List (Option AV) → List (Nat × List AV) → AS → Prop) : List Oper → List Nat → List (Option AV) → List (Nat × List AV) → List (Option AV) → AS → Prop
  | o :: r, k :: cl, x :: rec, sv, acc, σ => match k, x with
    | 0, some v => passT P ops K r cl rec sv (some v :: acc) (σ.put o.dst v)
    | 0, none => False
    | 1, _ => passT P ops K r cl rec sv (none :: acc) (σ.put o.dst undefA)
    | 2, x => exGD P ops o σ (kPass (passT P ops K r cl rec sv) x acc o.dst)
    | k + 3, _ => passT P ops K r cl rec ((k + 3, σ.s) :: sv) (none :: acc) (σ.put o.dst undefA)
  | [], _, _, sv, acc, σ => K acc.reverse sv σ
  | _, _, _, _, _, _ => False

def phT (P : Program) (ops : Array Oper) (l : List Oper) (s0 : List AV) (K : AS → Prop) : PT → Nat → List (Option AV) → List (Nat × List AV) → AS → Prop
  | .fin, _, vals, _, τ => kFin K vals [] τ
  | .nil, _, _, _, _ => True
  | .alt c cl' sub rest, k, vals, sv, τ => kLoud P ops c (fun rec m => passT P ops (phT P ops l s0 K sub 3) l cl' rec [] [] ⟨s0, m⟩) vals (svGet sv k) τ ∧ phT P ops l s0 K rest (k + 1) vals sv τ

def exT (P : Program) (ops : Array Oper) (l : List Oper) (s0 : List AV) (K : AS → Prop) (t : PT) (cl : List Nat) (rec : List (Option AV)) (m : AH) : Prop := passT P ops (phT P ops l s0 K t 3) l cl rec [] [] ⟨s0, m⟩

def recOfT : List Nat → List AV → List (Option AV)
  | k :: cl, v :: vs => (if k = 1 ∨ 3 ≤ k then none else some v) :: recOfT cl vs
  | _, _ => []

theorem recOfT_len : ∀ {cl : List Nat} {vs : List AV}, cl.length = vs.length → (recOfT cl vs).length = vs.length
  | [], [], _ => rfl
  | [], _ :: _, h => by simp at h
  | _ :: _, [], h => by simp at h
  | k :: cl, v :: vs, h => by simp only [recOfT, List.length_cons]; rw [recOfT_len (by simpa using h)]
theorem recOfT_get : ∀ {cl : List Nat} {vs : List AV} {i k : Nat} {v : AV}, cl[i]? = some k → vs[i]? = some v → (recOfT cl vs)[i]? = some (if k = 1 ∨ 3 ≤ k then none else some v)
  | [], _, i, k, v, h, _ => by simp at h
  | _ :: _, [], i, k, v, _, h => by simp at h
  | k0 :: cl, v0 :: vs, 0, k, v, h1, h2 => by simp at h1 h2; subst h1 h2; rfl
  | k0 :: cl, v0 :: vs, i + 1, k, v, h1, h2 => by
    simp only [recOfT, List.getElem?_cons_succ]
    exact recOfT_get (by simpa using h1) (by simpa using h2)

/-- What a pass comes to. -/
structure PassDT (P : Program) (ops : Array Oper) (l : List Oper) (cl : List Nat) (rec : List (Option AV)) (sv0 : List (Nat × List AV)) (σ : AS) (vs : List AV) (sv : List (Nat × List AV)) : Prop where
  len : vs.length = l.length
  cls : cl.length = l.length
  yld : ∀ (i : Nat) (o : Oper) (v : AV), l[i]? = some o → vs[i]? = some v → cl[i]? = some 2 → YieldsA P ops o v (puts σ (l.take i) (vs.take i))
  rcd : ∀ (i k : Nat) (v : AV), cl[i]? = some k → k = 0 ∨ k = 2 → rec[i]? = some (some v) → vs[i]? = some v
  svs : ∀ (i k : Nat), 3 ≤ k → cl[i]? = some k → (∀ j : Nat, i < j → cl[j]? ≠ some k) → svGet sv k = (puts σ (l.take i) (vs.take i)).s
  sv0 : ∀ (k : Nat), 3 ≤ k → (∀ i : Nat, cl[i]? ≠ some k) → svGet sv k = svGet sv0 k

theorem passT_text {P : Program} {ops : Array Oper} {K : List (Option AV) → List (Nat × List AV) → AS → Prop} : ∀ (l : List Oper) (cl : List Nat) (rec : List (Option AV)) (sv : List (Nat × List AV)) (acc : List (Option AV)) (σ : AS),
    cl.length = l.length → (∀ o ∈ l, ∀ d, o.dst = some d → d < σ.s.length) → passT P ops K l cl rec sv acc σ →
    ∃ vs sv', PassDT P ops l cl rec sv σ vs sv' ∧ K (acc.reverse ++ recOfT cl vs) sv' (puts σ l vs)
  | [], cl, rec, sv, acc, σ, hcl, _, h => by
    cases cl with
    | cons _ _ => simp at hcl
    | nil => exact ⟨[], sv, ⟨rfl, rfl, by simp, by simp, by simp, fun _ _ _ => rfl⟩, by
      have h' : K acc.reverse sv σ := by cases rec <;> exact h
      simpa [recOfT, puts] using h'⟩
  | o :: r, [], rec, sv, acc, σ, hcl, _, h => by simp at hcl
  | o :: r, k :: cl, [], sv, acc, σ, _, _, h => by simp [passT] at h
  | o :: r, k :: cl, x :: rec, sv, acc, σ, hcl, hd, h => by
    have hcl' : cl.length = r.length := by simpa using hcl
    have hlen : ∀ v, ∀ o' ∈ r, ∀ d, o'.dst = some d → d < (σ.put o.dst v).s.length := fun v o' ho' d hdd => by
      rw [put_len]; exact hd o' (List.mem_cons_of_mem _ ho') d hdd
    have fin : ∀ (v : AV) (sv1 : List (Nat × List AV)) (y : Option AV), (y = if k = 1 ∨ 3 ≤ k then none else some v) → passT P ops K r cl rec sv1 (y :: acc) (σ.put o.dst v) → (k = 2 → YieldsA P ops o v σ) →
        (k = 0 ∨ k = 2 → ∀ u, x = some u → v = u) → (3 ≤ k → sv1 = (k, σ.s) :: sv) → (k < 3 → sv1 = sv) →
        ∃ vs sv', PassDT P ops (o :: r) (k :: cl) (x :: rec) sv σ vs sv' ∧ K (acc.reverse ++ recOfT (k :: cl) vs) sv' (puts σ (o :: r) vs) := by
      intro v sv1 y hy hp hyl hrec hs3 hs
      obtain ⟨vs, sv', D, g2⟩ := passT_text r cl rec sv1 (y :: acc) (σ.put o.dst v) hcl' (hlen v) hp
      refine ⟨v :: vs, sv', ⟨by simp [D.len], by simp [hcl'], fun i o' v' ho' hv' hc' => ?_, fun i k' v' hc' hk' hr' => ?_, fun i k' hk3 hk' hl' => ?_, fun k' hk3 hn => ?_⟩, ?_⟩
      · cases i with
        | zero =>
          simp at ho' hv' hc'
          subst ho' hv'
          simpa [puts] using hyl hc'
        | succ i =>
          simp only [List.take_succ_cons]
          unfold puts
          exact D.yld i o' v' (by simpa using ho') (by simpa using hv') (by simpa using hc')
      · cases i with
        | zero =>
          simp at hc' hr' ⊢
          subst hc'
          exact hrec hk' v' hr'
        | succ i => simpa using D.rcd i k' v' (by simpa using hc') hk' (by simpa using hr')
      · cases i with
        | zero =>
          have e : k = k' := by simpa using hk'
          subst e
          rw [D.sv0 k hk3 (fun i => by have := hl' (i + 1) (by omega); simpa using this), hs3 hk3]
          simp [svGet, puts]
        | succ i =>
          rw [D.svs i k' hk3 (by simpa using hk') (fun j hj => by have := hl' (j + 1) (by omega); simpa using this)]
          simp only [List.take_succ_cons, puts]
      · have h0 : k ≠ k' := fun e => by have := hn 0; simp at this; exact this e
        rw [D.sv0 k' hk3 (fun i => by have := hn (i + 1); simpa using this)]
        by_cases hk : 3 ≤ k
        · rw [hs3 hk]; simp [svGet, h0]
        · rw [hs (by omega)]
      · unfold puts
        simp only [recOfT]
        rw [← hy]
        simpa using g2
    unfold passT at h
    split at h
    · rename_i v
      exact fin v _ (some v) (by simp) h (by simp) (fun _ u hu => by cases hu; rfl) (fun e => by omega) (fun _ => rfl)
    · exact h.elim
    · exact fin undefA _ none (by simp) h (by simp) (fun e => by omega) (fun e => by omega) (fun _ => rfl)
    · obtain ⟨v, ⟨h1, h2⟩, h3⟩ := exGD_local h
      have ev : valD o.dst (σ.put o.dst v) = valN o.dst v := valD_put (fun d hdd => hd o (List.mem_cons_self ..) d hdd)
      rw [ev] at h1 h2
      refine fin (valN o.dst v) _ (some (valN o.dst v)) (by simp) (by rw [put_valN]; exact h2) (fun _ => h3.valN) (fun _ u hu => ?_) (fun e => by omega) (fun _ => rfl)
      cases hu
      exact h1
    · rename_i k
      exact fin undefA _ none (by simp) h (fun e => by omega) (fun e => by omega) (fun _ => rfl) (fun e => by omega)

def phBT (ops : Array Oper) (an : List (List Nat)) : PT → Nat → List Nat → Bool
  | .fin, _, cl => cl.all fun k => k == 0 || k == 2
  | .nil, k, cl => decide (3 < k) && (cl.all fun q => decide (q < k)) && (List.range cl.length).all fun i => cl[i]? != some 1 || (List.range cl.length).any fun j => (match cl[j]? with | some q => decide (3 ≤ q) | none => false) && (an.getD i []).contains j
  | .alt c cl' sub rest, k, cl => cl[c]? == some k && cl'[c]? == some 0 && cl'.length == cl.length && (match ops[c]? with | some o => loudB o.op | none => false) &&
    ((List.range cl.length).all fun i => (cl[i]? != some k || i == c) && (cl'[i]? != some 0 || cl[i]? == some 0 || i == c || (an.getD c []).contains i) &&
      (match cl'[i]?, cl[i]? with | some q, some r => (q == 0 || q == 2) || r == 1 || (decide (3 ≤ r) && i != c) | _, _ => false)) && phBT ops an sub 3 cl' && phBT ops an rest (k + 1) cl

structure PhOkT (ops : Array Oper) (c k : Nat) (cl cl' : List Nat) : Prop where
  me : cl[c]? = some k
  me' : cl'[c]? = some 0
  len : cl'.length = cl.length
  loud : ∀ o, ops[c]? = some o → loudB o.op = true
  only : ∀ i : Nat, cl[i]? = some k → i = c
  been : ∀ i : Nat, cl'[i]? = some 0 → cl[i]? = some 0 ∨ i = c ∨ Anc ops c i
  next : ∀ i q : Nat, cl'[i]? = some q → q = 0 ∨ q = 2 ∨ ∃ r, cl[i]? = some r ∧ (r = 1 ∨ (3 ≤ r ∧ i ≠ c))

theorem anc_of {ops : Array Oper} (j i : Nat) (h : ((ancs ops.toList).getD j []).contains i = true) : Anc ops j i :=
  ancs_go ops.toList [] [] (by simp) rfl (fun j i hi => by simp at hi) j i (List.contains_iff_mem.1 h)

theorem phBT_spec {ops : Array Oper} {c k : Nat} {cl cl' : List Nat} {sub rest : PT} (h : phBT ops (ancs ops.toList) (.alt c cl' sub rest) k cl = true) : PhOkT ops c k cl cl' ∧ phBT ops (ancs ops.toList) sub 3 cl' = true ∧ phBT ops (ancs ops.toList) rest (k + 1) cl = true := by
  simp only [phBT, Bool.and_eq_true, beq_iff_eq] at h
  obtain ⟨⟨⟨⟨⟨⟨h1, h2⟩, h3⟩, h4⟩, h5⟩, h6⟩, h7⟩ := h
  have key : ∀ i : Nat, i < cl.length → (cl[i]? ≠ some k ∨ i = c) ∧ (cl'[i]? ≠ some 0 ∨ cl[i]? = some 0 ∨ i = c ∨ Anc ops c i) ∧ (∀ q, cl'[i]? = some q → q = 0 ∨ q = 2 ∨ ∃ r, cl[i]? = some r ∧ (r = 1 ∨ (3 ≤ r ∧ i ≠ c))) := fun i hi => by
    have := List.all_eq_true.1 h5 i (List.mem_range.2 hi)
    simp only [Bool.and_eq_true, Bool.or_eq_true, bne_iff_ne, beq_iff_eq] at this
    obtain ⟨⟨k2, k3⟩, k4⟩ := this
    refine ⟨k2, ?_, fun q hq => ?_⟩
    · rcases k3 with ((k3 | k3) | k3) | k3
      · exact .inl k3
      · exact .inr (.inl k3)
      · exact .inr (.inr (.inl k3))
      · exact .inr (.inr (.inr (anc_of c i k3)))
    · have hr := List.getElem?_eq_getElem (l := cl) (i := i) hi
      rw [hq, hr] at k4
      simp only [Bool.or_eq_true, Bool.and_eq_true, beq_iff_eq, decide_eq_true_eq, bne_iff_ne] at k4
      rcases k4 with ((k4 | k4) | k4) | k4
      · exact .inl k4
      · exact .inr (.inl k4)
      · exact .inr (.inr ⟨_, hr, .inl k4⟩)
      · exact .inr (.inr ⟨_, hr, .inr k4⟩)
  have lt : ∀ {i q : Nat}, cl[i]? = some q → i < cl.length := fun h => (List.getElem?_eq_some_iff.1 h).1
  have lt' : ∀ {i q : Nat}, cl'[i]? = some q → i < cl.length := fun h => by rw [← h3]; exact (List.getElem?_eq_some_iff.1 h).1
  exact ⟨⟨h1, h2, h3, fun o ho => by simpa [ho] using h4, fun i hi => ((key i (lt hi)).1).resolve_left (fun e => e hi),
    fun i hi => ((key i (lt' hi)).2.1).resolve_left (fun e => e hi), fun i q hi => (key i (lt' hi)).2.2 q hi⟩, h6, h7⟩

theorem late_of {ops : Array Oper} : ∀ {t : PT} {k : Nat} {cl : List Nat} {i : Nat}, phBT ops (ancs ops.toList) t k cl = true → cl[i]? = some 1 → ∃ j q, cl[j]? = some q ∧ 3 ≤ q ∧ Anc ops i j
  | .fin, k, cl, i, h, hi => by
    have := List.all_eq_true.1 h 1 (List.mem_of_getElem? hi)
    simp at this
  | .nil, k, cl, i, h, hi => by
    simp only [phBT, Bool.and_eq_true] at h
    have hlt : i < cl.length := (List.getElem?_eq_some_iff.1 hi).1
    have := List.all_eq_true.1 h.2 i (List.mem_range.2 hlt)
    simp only [hi, bne_self_eq_false, Bool.false_or] at this
    obtain ⟨j, hj, h1⟩ := List.any_eq_true.1 this
    have hjl := List.mem_range.1 hj
    have hr := List.getElem?_eq_getElem (l := cl) (i := j) hjl
    rw [hr] at h1
    simp only [Bool.and_eq_true, decide_eq_true_eq] at h1
    exact ⟨j, _, hr, h1.1, anc_of i j h1.2⟩
  | .alt c cl' sub rest, k, cl, i, h, hi => late_of (phBT_spec h).2.2 hi

theorem alts_of {P : Program} {ops : Array Oper} {l : List Oper} {s0 : List AV} {K : AS → Prop} : ∀ {t : PT} {k : Nat} {cl : List Nat} {i q : Nat}, phBT ops (ancs ops.toList) t k cl = true → cl[i]? = some q → 3 ≤ q → k ≤ q →
    ∃ cl' sub, PhOkT ops i q cl cl' ∧ phBT ops (ancs ops.toList) sub 3 cl' = true ∧ ∀ vals sv τ, phT P ops l s0 K t k vals sv τ → kLoud P ops i (exT P ops l s0 K sub cl') vals (svGet sv q) τ
  | .fin, k, cl, i, q, h, hi, h3, hk => by
    have := List.all_eq_true.1 h q (List.mem_of_getElem? hi)
    simp at this
    omega
  | .nil, k, cl, i, q, h, hi, h3, hk => by
    simp only [phBT, Bool.and_eq_true] at h
    have := List.all_eq_true.1 h.1.2 q (List.mem_of_getElem? hi)
    simp at this
    omega
  | .alt c cl' sub rest, k, cl, i, q, h, hi, h3, hk => by
    obtain ⟨C, h1, h2⟩ := phBT_spec h
    by_cases e : q = k
    · subst e
      have := C.only i hi
      subst this
      exact ⟨cl', sub, C, h1, fun vals sv τ g => g.1⟩
    · obtain ⟨cl2, sub2, C2, g1, g2⟩ := alts_of (P := P) (l := l) (s0 := s0) (K := K) (k := k + 1) h2 hi h3 (by omega)
      exact ⟨cl2, sub2, C2, g1, fun vals sv τ g => g2 vals sv τ g.2⟩

section
variable {P : Program} {E : Env} {ops : Array Oper}

theorem phaseT_ok (hT : TabsOk P E) (hd : DrawOk ops) {s0 : List AV} (hdst : ∀ o ∈ ops.toList, ∀ d, o.dst = some d → d < s0.length) {Q : Exit → AS → Prop} :
    ∀ (fuel : Nat) (t : PT) (cl : List Nat) (m : AH) (vs : List AV) (sv : List (Nat × List AV)) (L : Array Bool) (σ : AS) (a : Act) (w : World), phBT ops (ancs ops.toList) t 3 cl = true →
      (∃ rec, PassDT P ops ops.toList cl rec [] ⟨s0, m⟩ vs sv) →
      phT P ops ops.toList s0 (Q .normal) t 3 (recOfT cl vs) sv (puts ⟨s0, m⟩ ops.toList vs) →
      (∀ i k : Nat, L.getD i false = true → cl[i]? = some k → k = 0 ∨ k = 2) → (∀ i : Nat, cl[i]? = some 0 → L.getD i false = true) →
      (L.toList.filter (fun b => !b)).length ≤ fuel → JL ops vs ⟨s0, m⟩ L σ → St E σ a w → wpAny P .any ops (Lift E Q) fuel L a w := by
  have fin : ∀ (t : PT) (cl : List Nat) (m : AH) (vs : List AV) (sv : List (Nat × List AV)) (L : Array Bool) (σ : AS) (a : Act) (w : World), phBT ops (ancs ops.toList) t 3 cl = true →
      (∃ rec, PassDT P ops ops.toList cl rec [] ⟨s0, m⟩ vs sv) →
      phT P ops ops.toList s0 (Q .normal) t 3 (recOfT cl vs) sv (puts ⟨s0, m⟩ ops.toList vs) →
      (∀ i k : Nat, L.getD i false = true → cl[i]? = some k → k = 0 ∨ k = 2) → JL ops vs ⟨s0, m⟩ L σ → St E σ a w → Region.ready .any ops L = [] → Lift E Q .normal a w := by
    intro t cl m vs sv L σ a w hB ⟨rec, D⟩ hK hN J hst hr
    have hl : vs.length = ops.size := by rw [D.len]; simp
    have nodone : ∀ (i q : Nat), cl[i]? = some q → q = 0 ∨ q = 2 := fun i q hi => by
      have hc : i < ops.size := by
        have := (List.getElem?_eq_some_iff.1 hi).1
        have := D.cls
        simp at this
        omega
      exact hN i q (ready_nil hd J.size hr i hc) hi
    cases t with
    | alt c cl' sub rest =>
      have := nodone c 3 (phBT_spec hB).1.me
      omega
    | nil =>
      simp [phBT] at hB
    | fin =>
      refine ⟨σ, hst, ?_⟩
      have h1 := J.final hd hl hr
      have := hK σ.m.nx σ.m.lv (by rw [puts_m]; exact J.nx) (by rw [puts_m]; exact J.lv)
      rw [← h1, puts_m, ← J.h, ← J.o] at this
      exact this
  intro fuel
  induction fuel with
  | zero =>
    intro t cl m vs sv L σ a w hB D hK hN hS hc J hst
    have hr : Region.ready .any ops L = [] := by
      apply List.eq_nil_iff_forall_not_mem.2
      intro i hi
      obtain ⟨h1, h2⟩ := undone (mem_ready.1 hi).1
      rw [none_left h2 hc] at h1; cases h1
    exact ⟨hr, fin t cl m vs sv L σ a w hB D hK hN J hst hr⟩
  | succ fuel ih =>
    intro t cl m vs sv L σ a w hB D0 hK hN hS hc J hst
    refine ⟨fun hr => fin t cl m vs sv L σ a w hB D0 hK hN J hst hr, fun i hi => ?_⟩
    obtain ⟨rec, D⟩ := D0
    have hl : vs.length = ops.size := by rw [D.len]; simp
    have hcl : cl.length = ops.size := by rw [D.cls]; simp
    obtain ⟨hun, o, ho, hall⟩ := mem_ready.1 hi
    obtain ⟨hun', hlt⟩ := undone hun
    have hilt := (Array.getElem?_eq_some_iff.1 ho).1
    have hv := List.getElem?_eq_getElem (l := vs) (i := i) (by omega)
    have hk := List.getElem?_eq_getElem (l := cl) (i := i) (by omega)
    have ag := J.agree hd hl ho hi
    have hol : ops.toList[i]? = some o := by simpa using ho
    have hquiet : cl[i]? = some 2 → wpOp P ops (Lift E Q) i (fun a' w' => wpAny P .any ops (Lift E Q) fuel (L.setIfInBounds i true) a' w') a w := by
      intro h2
      have key := D.yld i o _ hol hv h2 σ ag (fun τ => JL ops vs ⟨s0, m⟩ (L.setIfInBounds i true) τ) (fun nx lv g1 g2 => J.step hd ho hv hi g1 g2)
      refine wpOp_mono ?_ (exG_ok hT ho key hst)
      rintro a' w' ⟨σ', hst', J'⟩
      have hN' : ∀ j k : Nat, (L.setIfInBounds i true).getD j false = true → cl[j]? = some k → k = 0 ∨ k = 2 := fun j k hj hjk => by
        by_cases hij : i = j
        · subst hij
          rw [h2] at hjk
          cases hjk
          exact .inr rfl
        · rw [getD_set_ne false hij] at hj
          exact hN j k hj hjk
      have hS' : ∀ j : Nat, cl[j]? = some 0 → (L.setIfInBounds i true).getD j false = true := fun j hj => by
        by_cases hij : i = j
        · subst hij; rw [h2] at hj; cases hj
        · rw [getD_set_ne false hij]; exact hS j hj
      rcases J' with J' | J'
      · exact ih t cl m vs sv _ σ' a' w' hB ⟨rec, D⟩ hK hN' hS' (count_set hlt hun hc) J' hst'
      · exact ih t cl m vs sv _ _ a' w' hB ⟨rec, D⟩ hK hN' hS' (count_set hlt hun hc) J' (hst'.erAt o.dst)
    have hkind : cl[i]'(by omega) = 0 ∨ cl[i]'(by omega) = 1 ∨ cl[i]'(by omega) = 2 ∨ 3 ≤ cl[i]'(by omega) := by omega
    rcases hkind with h0 | h1 | h2 | h3
    · rw [h0] at hk
      rw [hS i hk] at hun'
      cases hun'
    · rw [h1] at hk
      exfalso
      obtain ⟨j, q, g1, g2, g3⟩ := late_of hB hk
      have := hN j q (g3.ready J.closed ho hall) g1
      omega
    · rw [h2] at hk
      exact hquiet hk
    · obtain ⟨cl', sub, C, hB', g⟩ := alts_of (P := P) (l := ops.toList) (s0 := s0) (K := Q .normal) hB hk h3 h3
      have hK := g _ _ _ hK
      · skip
        unfold kLoud at hK
        simp only [ho] at hK
        have hK := hK σ.m.nx σ.m.lv (by rw [puts_m]; exact J.nx) (by rw [puts_m]; exact J.lv)
        simp only [puts_m] at hK
        have em : (⟨m.h, m.o, σ.m.nx, σ.m.lv⟩ : AH) = σ.m := by
          have h1 := J.h
          have h2 := J.o
          simp only at h1 h2
          rw [← h1, ← h2]
        rw [em] at hK
        have hsv := D.svs i _ h3 hk (fun j hj e => by have := C.only j e; omega)
        generalize svGet sv (cl[i]'(by omega)) = sv at hsv hK
        have hsl : sv.length = s0.length := by rw [hsv, puts_len]
        have hdo : ∀ d, o.dst = some d → d < s0.length := hdst o (List.mem_of_getElem? hol)
        have ag' : Agree ops o ⟨sv, σ.m⟩ ⟨σ.s, σ.m⟩ := ⟨fun t ht => by rw [hsv]; exact ag.s t ht, rfl, rfl⟩
        have key := loud_g (P := P) (J := fun m' v => exT P ops ops.toList s0 (Q .normal) sub cl' ((recOfT cl vs).set i (some v)) m') (C.loud o ho) ag' (fun d hdd => by rw [hsl]; exact hdo d hdd) hK
        refine wpOp_mono ?_ (exG_ok hT ho key hst)
        rintro a' w' ⟨σ', hst', v, hσ', hJ⟩
        have hrl : (recOfT cl vs).length = ops.size := by rw [recOfT_len (by omega)]; exact hl
        obtain ⟨vs', sv', D', hK'⟩ := passT_text _ _ _ _ _ _ (by rw [C.len, D.cls]) (fun o ho d hdd => hdst o ho d hdd) hJ
        have hrec := D'.rcd
        simp only [List.reverse_nil, List.nil_append] at hK'
        have hcl' : cl'.length = ops.size := by rw [C.len]; exact hcl
        have hl' : vs'.length = ops.size := by rw [D'.len]; simp
        have hN' : ∀ j k : Nat, (L.setIfInBounds i true).getD j false = true → cl'[j]? = some k → k = 0 ∨ k = 2 := fun j k hj hjk => by
          rcases C.next j k hjk with e | e | ⟨r, h1, h2⟩
          · exact .inl e
          · exact .inr e
          · exfalso
            have hij : i ≠ j := fun e => by
              subst e
              rcases h2 with h2 | h2
              · rw [hk] at h1; cases h1; omega
              · exact h2.2 rfl
            rw [getD_set_ne false hij] at hj
            have := hN j r hj h1
            omega
        have hS' : ∀ j : Nat, cl'[j]? = some 0 → (L.setIfInBounds i true).getD j false = true := fun j hj => by
          by_cases hij : i = j
          · subst hij; simp [hlt]
          · rw [getD_set_ne false hij]
            rcases C.been j hj with h1 | h1 | h1
            · exact hS j h1
            · exact absurd h1.symm hij
            · exact h1.ready J.closed ho hall
        have Jold := J.step hd ho hv hi (nx := σ.m.nx) (lv := σ.m.lv) (Nat.le_refl _) (fun _ x => x)
        have hsame : ∀ j u, j ≠ i → L.getD j false = true → vs[j]? = some u → vs'[j]? = some u := fun j u hji hLj hu => by
          have hjl : j < ops.size := by rw [← hl]; exact (List.getElem?_eq_some_iff.1 hu).1
          have hkj := List.getElem?_eq_getElem (l := cl) (i := j) (by omega)
          have hkj' := List.getElem?_eq_getElem (l := cl') (i := j) (by omega)
          have hn := hN j _ hLj hkj
          have hn' := hN' j _ (by rw [getD_set_ne false (Ne.symm hji)]; exact hLj) hkj'
          refine hrec j _ u hkj' hn' ?_
          rw [List.getElem?_set_ne (Ne.symm hji), recOfT_get hkj hu, if_neg (by omega)]
        have hme : vs'[i]? = some (valN o.dst v) := hrec i 0 _ C.me' (.inl rfl) (by rw [List.getElem?_set_self (by omega)])
        have hslots : σ'.s = (AS.put ⟨σ.s, σ'.m⟩ o.dst v).s := congrArg AS.s hσ'
        have hne : ∀ t, o.dst ≠ some t → nth σ'.s t = nth σ.s t := fun t ht => by rw [hslots]; exact put_ne ht
        refine ih sub cl' σ'.m vs' sv' _ σ' a' w' hB' ⟨_, D'⟩ hK' hN' hS' (count_set hlt hun hc) ⟨Jold.size, ?_, rfl, rfl, Nat.le_refl _, fun _ x => x, Jold.closed, fun j oj u d hj hu hdj hLj => ?_, fun t ht => ?_⟩ hst'
        · rw [hslots, put_len]; exact J.len
        · by_cases hij : j = i
          · subst hij
            rw [ho] at hj
            cases hj
            rw [hme] at hu
            cases hu
            rw [hslots, hdj, put_eq]
            have e1 : d < s0.length := hdo d hdj
            have e2 : d < σ.s.length := by rw [J.len]; exact e1
            simp only at e1 e2 ⊢
            rw [if_pos e2, if_pos e1]
            simp [valN]
          · rw [getD_set_ne false (Ne.symm hij)] at hLj
            have hjl := (Array.getElem?_eq_some_iff.1 hj).1
            have hvj := List.getElem?_eq_getElem (l := vs) (i := j) (by omega)
            have := hsame j _ hij hLj hvj
            rw [hu] at this
            cases this
            rw [hne d (hd.once j i oj o d hij hj ho hdj)]
            exact J.done j oj _ d hj hvj hdj hLj
        · have hti : o.dst ≠ some t := ht i o ho (by simp [hlt])
          rw [hne t hti]
          exact J.rest t (fun j oj hj hLj => ht j oj hj (by
            by_cases hij : i = j
            · subst hij; simp [hlt]
            · rw [getD_set_ne false hij]; exact hLj))

/-- A region that draws its order, by a tree of phases. -/
theorem drawnT {id : Nat} {l : List Oper} {Q : Exit → AS → Prop} {s0 : List AV} {m : AH} (cl : List Nat) (t : PT) (n : Nat) (hm : P.follows .mixedOrders = true) (hB : drawB l.toArray = true) (hC : phBT l.toArray (ancs l) t 3 cl = true)
    (h2 : (cl.all (fun k => k != 0) && (cl.length == l.length) && l.all fun o => match o.dst with | some d => decide (d < n) | none => true) = true) (hn : s0.length = n)
    (h : exT P l.toArray l s0 (Q .normal) t cl (List.replicate cl.length none) m) : AW P E (.region id l.toArray true) Q ⟨s0, m⟩ := by
  unfold AW
  intro hT a w hst
  simp only [Bool.and_eq_true, beq_iff_eq] at h2
  obtain ⟨⟨h0, h2⟩, h3⟩ := h2
  have hdst : ∀ o ∈ l.toArray.toList, ∀ d, o.dst = some d → d < s0.length := fun o ho d hd => by
    have := List.all_eq_true.1 h3 o (by simpa using ho)
    rw [hd] at this
    rw [hn]
    simpa using this
  have hno : ∀ j, (Array.replicate l.toArray.size false).getD j false = true → False := fun j hL => by
    revert hL
    simp only [Array.getD_eq_getD_getElem?, Array.getElem?_replicate]
    split <;> simp
  obtain ⟨vs, sv, D, hK⟩ := passT_text _ _ _ _ _ _ h2 (fun o ho d hd => hdst o (by simpa using ho) d hd) h
  simp only [List.reverse_nil, List.nil_append] at hK
  refine wp_region_any hm ?_
  refine phaseT_ok (E := E) hT (drawB_spec hB) hdst _ t cl m vs sv _ ⟨s0, m⟩ a _ hC ⟨_, D⟩ hK (fun i k hL _ => (hno i hL).elim) (fun i hi => ?_) (Nat.le_trans (List.length_filter_le _ _) (by simp)) ?_ (St.drawn hst)
  · have := List.all_eq_true.1 h0 0 (List.mem_of_getElem? hi)
    simp at this
  · exact ⟨by simp, rfl, rfl, rfl, Nat.le_refl _, fun _ x => x, fun j o hj hL => (hno j hL).elim, fun i o v d _ _ _ hL => (hno i hL).elim, fun t _ => rfl⟩
end

section
variable {P : Program}
@[congr] theorem passT_congr {ops : Array Oper} {K : List (Option AV) → List (Nat × List AV) → AS → Prop} {l : List Oper} {cl : List Nat} {rec rec' : List (Option AV)} {sv sv' : List (Nat × List AV)} {acc acc' : List (Option AV)} {σ σ' : AS} (h1 : rec = rec') (h2 : sv = sv') (h3 : acc = acc') (h : σ = σ') :
    passT P ops K l cl rec sv acc σ = passT P ops K l cl rec' sv' acc' σ' := by rw [h1, h2, h3, h]
@[congr] theorem exT_congr {ops : Array Oper} {l : List Oper} {s0 : List AV} {K : AS → Prop} {t : PT} {cl : List Nat} {rec rec' : List (Option AV)} {m m' : AH} (h1 : rec = rec') (h : m = m') : exT P ops l s0 K t cl rec m = exT P ops l s0 K t cl rec' m' := by rw [h1, h]
@[congr] theorem phT_congr {ops : Array Oper} {l : List Oper} {s0 : List AV} {K : AS → Prop} {t : PT} {k : Nat} {x x' : List (Option AV)} {y y' : List (Nat × List AV)} {τ τ' : AS} (h1 : x = x') (h2 : y = y') (h : τ = τ') : phT P ops l s0 K t k x y τ = phT P ops l s0 K t k x' y' τ' := by rw [h1, h2, h]
variable {ops : Array Oper} {K : List (Option AV) → List (Nat × List AV) → AS → Prop} {o : Oper} {r : List Oper} {cl : List Nat} {rec acc : List (Option AV)} {sv : List (Nat × List AV)} {σ : AS}
theorem passT_0 {v : AV} : passT P ops K (o :: r) (0 :: cl) (some v :: rec) sv acc σ = passT P ops K r cl rec sv (some v :: acc) (σ.put o.dst v) := (rfl)
theorem passT_1 {x : Option AV} : passT P ops K (o :: r) (1 :: cl) (x :: rec) sv acc σ = passT P ops K r cl rec sv (none :: acc) (σ.put o.dst undefA) := by cases x <;> rfl
theorem passT_2 {x : Option AV} : passT P ops K (o :: r) (2 :: cl) (x :: rec) sv acc σ = exGD P ops o σ (kPass (passT P ops K r cl rec sv) x acc o.dst) := by cases x <;> rfl
theorem passT_3 {x : Option AV} : passT P ops K (o :: r) (3 :: cl) (x :: rec) sv acc σ = passT P ops K r cl rec ((3, σ.s) :: sv) (none :: acc) (σ.put o.dst undefA) := by cases x <;> rfl
theorem passT_4 {x : Option AV} : passT P ops K (o :: r) (4 :: cl) (x :: rec) sv acc σ = passT P ops K r cl rec ((4, σ.s) :: sv) (none :: acc) (σ.put o.dst undefA) := by cases x <;> rfl
theorem passT_5 {x : Option AV} : passT P ops K (o :: r) (5 :: cl) (x :: rec) sv acc σ = passT P ops K r cl rec ((5, σ.s) :: sv) (none :: acc) (σ.put o.dst undefA) := by cases x <;> rfl
theorem passT_nil : passT P ops K [] cl rec sv acc σ = K acc.reverse sv σ := by cases cl <;> cases rec <;> rfl
theorem exT_eq {l : List Oper} {s0 : List AV} {K : AS → Prop} {t : PT} {m : AH} : exT P ops l s0 K t cl rec m = passT P ops (phT P ops l s0 K t 3) l cl rec [] [] ⟨s0, m⟩ := (rfl)
theorem phT_fin {l : List Oper} {s0 : List AV} {K : AS → Prop} {k : Nat} : phT P ops l s0 K .fin k rec sv σ = kFin K rec [] σ := (rfl)
theorem phT_nil {l : List Oper} {s0 : List AV} {K : AS → Prop} {k : Nat} : phT P ops l s0 K .nil k rec sv σ = True := (rfl)
theorem phT_alt {l : List Oper} {s0 : List AV} {K : AS → Prop} {k c : Nat} {cl' : List Nat} {sub rest : PT} : phT P ops l s0 K (.alt c cl' sub rest) k rec sv σ = (kLoud P ops c (exT P ops l s0 K sub cl') rec (svGet sv k) σ ∧ phT P ops l s0 K rest (k + 1) rec sv σ) := (rfl)
theorem svGet_3 {s : List AV} {r : List (Nat × List AV)} : svGet ((3, s) :: r) 3 = s := (rfl)
theorem svGet_4 {s : List AV} {r : List (Nat × List AV)} : svGet ((4, s) :: r) 4 = s := (rfl)
theorem svGet_5 {s : List AV} {r : List (Nat × List AV)} : svGet ((5, s) :: r) 5 = s := (rfl)
theorem svGet_43 {s : List AV} {r : List (Nat × List AV)} : svGet ((4, s) :: r) 3 = svGet r 3 := (rfl)
theorem svGet_34 {s : List AV} {r : List (Nat × List AV)} : svGet ((3, s) :: r) 4 = svGet r 4 := (rfl)
theorem svGet_53 {s : List AV} {r : List (Nat × List AV)} : svGet ((5, s) :: r) 3 = svGet r 3 := (rfl)
theorem svGet_54 {s : List AV} {r : List (Nat × List AV)} : svGet ((5, s) :: r) 4 = svGet r 4 := (rfl)
theorem svGet_35 {s : List AV} {r : List (Nat × List AV)} : svGet ((3, s) :: r) 5 = svGet r 5 := (rfl)
theorem svGet_45 {s : List AV} {r : List (Nat × List AV)} : svGet ((4, s) :: r) 5 = svGet r 5 := (rfl)
end
attribute [irreducible] passT exT phT svGet
attribute [go_sem] passT_0 passT_1 passT_2 passT_3 passT_4 passT_5 passT_nil exT_eq phT_fin phT_nil phT_alt svGet_3 svGet_4 svGet_5 svGet_43 svGet_34 svGet_53 svGet_54 svGet_35 svGet_45

end Go.AB
