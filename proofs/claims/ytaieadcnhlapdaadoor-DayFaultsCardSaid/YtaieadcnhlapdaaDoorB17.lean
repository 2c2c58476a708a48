/- Regions that draw their order: every order does what the text's order does. -/
import Derived.Test.YtaieadcnhlapdaaDoorB16
namespace Go.AB

def directly (ops : Array Oper) (i j : Nat) : Bool := match ops[j]? with
  | some o => o.after.any fun e => Region.binds .any e && e.on == i
  | none => false

/-- Each operation waits for earlier ones only; two that are not apart wait for one another; no slot is written twice. -/
def drawB (ops : Array Oper) : Bool := (List.range ops.size).all fun j => match ops[j]? with
  | some oj => (oj.after.all fun e => !Region.binds .any e || decide (e.on < j)) &&
    (List.range j).all fun i => match ops[i]? with
      | some oi => (directly ops i j || oi.apart ops oj) && (oi.dst == none || oi.dst != oj.dst)
      | none => true
  | none => true

structure DrawOk (ops : Array Oper) : Prop where
  back : ∀ (j : Nat) o, ops[j]? = some o → ∀ e ∈ o.after, Region.binds .any e = true → e.on < j
  apart : ∀ (i j : Nat) oi oj, i < j → ops[i]? = some oi → ops[j]? = some oj → (∃ e ∈ oj.after, Region.binds .any e = true ∧ e.on = i) ∨ oi.apart ops oj = true
  once : ∀ (i j : Nat) oi oj d, i ≠ j → ops[i]? = some oi → ops[j]? = some oj → oi.dst = some d → oj.dst ≠ some d

theorem drawB_spec {ops : Array Oper} (h : drawB ops = true) : DrawOk ops := by
  have h0 : ∀ (j : Nat) oj, ops[j]? = some oj → (∀ e ∈ oj.after, Region.binds .any e = true → e.on < j) ∧
      ∀ (i : Nat) oi, i < j → ops[i]? = some oi → ((∃ e ∈ oj.after, Region.binds .any e = true ∧ e.on = i) ∨ oi.apart ops oj = true) ∧ (oi.dst = none ∨ oi.dst ≠ oj.dst) := by
    intro j oj hj
    have hlt := (Array.getElem?_eq_some_iff.1 hj).1
    have h1 := List.all_eq_true.1 h j (List.mem_range.2 hlt)
    simp only [hj, Bool.and_eq_true] at h1
    obtain ⟨h1, h2⟩ := h1
    refine ⟨fun e he hb => ?_, fun i oi hij hi => ?_⟩
    · have := Array.all_eq_true_iff_forall_mem.1 h1 e he
      simpa [hb] using this
    · have h3 := List.all_eq_true.1 h2 i (List.mem_range.2 hij)
      simp only [hi, Bool.and_eq_true, Bool.or_eq_true] at h3
      obtain ⟨h3, h4⟩ := h3
      refine ⟨h3.imp (fun h3 => ?_) id, ?_⟩
      · simp only [directly, hj] at h3
        obtain ⟨e, he, hb⟩ := Array.any_eq_true'.1 h3
        simp only [Bool.and_eq_true, beq_iff_eq] at hb
        exact ⟨e, he, hb⟩
      · rcases h4 with h4 | h4
        · exact .inl (by simpa using h4)
        · exact .inr (by simpa using h4)
  refine ⟨fun j o hj => (h0 j o hj).1, fun i j oi oj hij hi hj => ((h0 j oj hj).2 i oi hij hi).1, fun i j oi oj d hne hi hj hd hd' => ?_⟩
  rcases Nat.lt_or_gt_of_ne hne with hlt | hlt
  · rcases ((h0 j oj hj).2 i oi hlt hi).2 with h1 | h1
    · rw [h1] at hd; cases hd
    · exact h1 (hd.trans hd'.symm)
  · rcases ((h0 i oi hi).2 j oj hlt hj).2 with h1 | h1
    · rw [h1] at hd'; cases hd'
    · exact h1 (hd'.trans hd.symm)

def puts (σ : AS) : List Oper → List AV → AS
  | o :: r, v :: vs => puts (σ.put o.dst v) r vs
  | _, _ => σ

theorem put_m (σ : AS) (d : Option Nat) (v : AV) : (σ.put d v).m = σ.m := by cases d <;> rfl
theorem put_len (σ : AS) (d : Option Nat) (v : AV) : (σ.put d v).s.length = σ.s.length := by cases d <;> simp [AS.put]
theorem puts_m : ∀ (l : List Oper) (σ : AS) (vs : List AV), (puts σ l vs).m = σ.m
  | [], _, _ => by unfold puts; rfl
  | _ :: _, _, [] => by unfold puts; rfl
  | o :: r, σ, v :: vs => by unfold puts; rw [puts_m, put_m]
theorem puts_len : ∀ (l : List Oper) (σ : AS) (vs : List AV), (puts σ l vs).s.length = σ.s.length
  | [], _, _ => by unfold puts; rfl
  | _ :: _, _, [] => by unfold puts; rfl
  | o :: r, σ, v :: vs => by unfold puts; rw [puts_len, put_len]

theorem put_ne {σ : AS} {dst : Option Nat} {v : AV} {t : Nat} (h : dst ≠ some t) : nth (σ.put dst v).s t = nth σ.s t := by
  cases dst with
  | none => rfl
  | some d =>
    simp only [AS.put, nth_set]
    rw [if_neg]
    rintro ⟨rfl, _⟩
    exact h rfl

theorem put_eq {σ : AS} {d : Nat} {v : AV} : nth (σ.put (some d) v).s d = if d < σ.s.length then v else undefA := by
  simp only [AS.put, nth_set, true_and]
  split
  · rfl
  · exact nth_ge (by omega)

theorem puts_rest {t : Nat} : ∀ (l : List Oper) (σ : AS) (vs : List AV), (∀ o ∈ l, o.dst ≠ some t) → nth (puts σ l vs).s t = nth σ.s t
  | [], _, _, _ => by unfold puts; rfl
  | _ :: _, _, [], _ => by unfold puts; rfl
  | o :: r, σ, v :: vs, h => by
    unfold puts
    rw [puts_rest r _ vs (fun o' ho' => h o' (List.mem_cons_of_mem _ ho')), put_ne (h o (List.mem_cons_self ..))]

theorem puts_done {d : Nat} : ∀ (l : List Oper) (σ : AS) (vs : List AV) (i : Nat) (o : Oper) (v : AV), l[i]? = some o → vs[i]? = some v → o.dst = some d →
    (∀ (j : Nat) o', i < j → l[j]? = some o' → o'.dst ≠ some d) → nth (puts σ l vs).s d = if d < σ.s.length then v else undefA
  | [], _, _, i, o, v, h1, _, _, _ => by simp at h1
  | _ :: _, _, [], i, o, v, _, h2, _, _ => by simp at h2
  | o0 :: r, σ, v0 :: vs, 0, o, v, h1, h2, h3, h4 => by
    simp only [List.getElem?_cons_zero, Option.some.injEq] at h1 h2
    subst h1 h2
    unfold puts
    rw [puts_rest r _ vs (fun o' ho' => by
      obtain ⟨j, hj⟩ := List.getElem?_of_mem ho'
      exact h4 (j + 1) o' (Nat.succ_pos _) (by simpa using hj)), h3, put_eq]
  | o0 :: r, σ, v0 :: vs, i + 1, o, v, h1, h2, h3, h4 => by
    unfold puts
    rw [puts_done r _ vs i o v (by simpa using h1) (by simpa using h2) h3 (fun j o' hj ho' => h4 (j + 1) o' (Nat.succ_lt_succ hj) (by simpa using ho')), put_len]

theorem text {P : Program} {ops : Array Oper} : ∀ (l : List Oper) (σ : AS) (K : AS → Prop), exOpsD P ops l σ K →
    ∃ vs : List AV, vs.length = l.length ∧ K (puts σ l vs) ∧ ∀ (i : Nat) (o : Oper) (v : AV), l[i]? = some o → vs[i]? = some v → YieldsA P ops o v (puts σ (l.take i) (vs.take i))
  | [], σ, K, h => ⟨[], rfl, by unfold puts; exact h, by simp⟩
  | o :: r, σ, K, h => by
    obtain ⟨v, h1, h2⟩ := exGD_local h
    obtain ⟨vs, g1, g2, g3⟩ := text r (σ.put o.dst v) K h1
    refine ⟨v :: vs, by simp [g1], by unfold puts; exact g2, fun i o' v' hi hv => ?_⟩
    cases i with
    | zero =>
      simp only [List.getElem?_cons_zero, Option.some.injEq] at hi hv
      subst hi hv
      simp only [List.take_zero]
      unfold puts
      exact h2
    | succ i =>
      simp only [List.take_succ_cons]
      unfold puts
      exact g3 i o' v' (by simpa using hi) (by simpa using hv)

/-- The state when the operations of L have been. -/
structure JL (ops : Array Oper) (vs : List AV) (σ0 : AS) (L : Array Bool) (σ : AS) : Prop where
  size : L.size = ops.size
  len : σ.s.length = σ0.s.length
  h : σ.m.h = σ0.m.h
  o : σ.m.o = σ0.m.o
  nx : σ0.m.nx ≤ σ.m.nx
  lv : ∀ j, σ0.m.lv j → σ.m.lv j
  closed : ∀ (j : Nat) o, ops[j]? = some o → L.getD j false = true → ∀ e ∈ o.after, Region.binds .any e = true → L.getD e.on false = true
  done : ∀ (i : Nat) o v d, ops[i]? = some o → vs[i]? = some v → o.dst = some d → L.getD i false = true → nth σ.s d = if d < σ0.s.length then v else undefA
  rest : ∀ t, (∀ (i : Nat) o, ops[i]? = some o → L.getD i false = true → o.dst ≠ some t) → nth σ.s t = nth σ0.s t

section
variable {P : Program} {E : Env} {ops : Array Oper} {vs : List AV} {σ0 : AS}

theorem JL.agree (hd : DrawOk ops) (hl : vs.length = ops.size) {L : Array Bool} {σ : AS} (J : JL ops vs σ0 L σ) {i : Nat} {o : Oper} (hi : ops[i]? = some o) (hr : i ∈ Region.ready .any ops L) :
    Agree ops o (puts σ0 (ops.toList.take i) (vs.take i)) σ := by
  obtain ⟨hun, o', ho', hall⟩ := mem_ready.1 hr
  rw [hi] at ho'
  cases ho'
  have hilt := (Array.getElem?_eq_some_iff.1 hi).1
  have hun' : L.getD i false = false := by
    have hsz := J.size
    simp only [Array.getD_eq_getD_getElem?] at hun ⊢
    have : i < L.size := by omega
    simp only [Array.getElem?_eq_getElem this, Option.getD_some] at hun ⊢
    exact hun
  refine ⟨fun t ht => ?_, by rw [puts_m, J.h], by rw [puts_m, J.o]⟩
  have hvi : ∀ j, j < ops.size → ∃ v, vs[j]? = some v := fun j hj => ⟨_, List.getElem?_eq_getElem (by omega)⟩
  by_cases hw : ∃ (j : Nat) (oj : Oper), ops[j]? = some oj ∧ oj.dst = some t
  · obtain ⟨j, oj, hj, hdj⟩ := hw
    have hjlt := (Array.getElem?_eq_some_iff.1 hj).1
    obtain ⟨v, hv⟩ := hvi j hjlt
    rcases Nat.lt_trichotomy j i with hlt | heq | hgt
    · have hL : L.getD j false = true := by
        rcases hd.apart j i oj o hlt hj hi with ⟨e, he, hb, heq⟩ | hap
        · rw [← heq]; exact hall e he hb
        · exact absurd ht ((Oper.apart_spec hap).1 t hdj)
      rw [J.done j oj v t hj hv hdj hL]
      rw [puts_done (ops.toList.take i) σ0 (vs.take i) j oj v (by rw [List.getElem?_take]; simp [hlt, hj]) (by rw [List.getElem?_take]; simp [hlt, hv]) hdj
        (fun k o' hk ho' => by
          rw [List.getElem?_take] at ho'
          split at ho'
          · exact hd.once j k oj o' t (by omega) hj (by simpa using ho') hdj
          · cases ho')]
    · subst heq
      rw [hi] at hj
      cases hj
      rw [puts_rest _ _ _ (fun o' ho' => by
        obtain ⟨k, hk⟩ := List.getElem?_of_mem ho'
        rw [List.getElem?_take] at hk
        split at hk
        · exact hd.once j k o o' t (by omega) hi (by simpa using hk) hdj
        · cases hk)]
      exact J.rest t fun k ok hk hL hdk => by
        by_cases hjk : k = j
        · subst hjk; rw [hun'] at hL; cases hL
        · exact hd.once k j ok o t hjk hk hi hdk hdj
    · have hLj : ¬ L.getD j false = true := fun hL => by
        rcases hd.apart i j o oj hgt hi hj with ⟨e, he, hb, heq⟩ | hap
        · have := J.closed j oj hj hL e he hb
          rw [heq, hun'] at this
          cases this
        · exact absurd ht ((Oper.apart_spec hap).2.2 t hdj)
      rw [puts_rest _ _ _ (fun o' ho' => by
        obtain ⟨k, hk⟩ := List.getElem?_of_mem ho'
        rw [List.getElem?_take] at hk
        split at hk
        · exact hd.once j k oj o' t (by omega) hj (by simpa using hk) hdj
        · cases hk)]
      exact J.rest t fun k ok hk hL hdk => by
        by_cases hjk : k = j
        · subst hjk; exact hLj hL
        · exact hd.once k j ok oj t hjk hk hj hdk hdj
  · rw [puts_rest _ _ _ (fun o' ho' => by
      obtain ⟨k, hk⟩ := List.getElem?_of_mem ho'
      rw [List.getElem?_take] at hk
      split at hk
      · exact fun hdk => hw ⟨k, o', by simpa using hk, hdk⟩
      · cases hk)]
    exact J.rest t fun k ok hk hL hdk => hw ⟨k, ok, hk, hdk⟩

theorem JL.step (hd : DrawOk ops) {L : Array Bool} {σ : AS} (J : JL ops vs σ0 L σ) {i : Nat} {o : Oper} {v : AV} (hi : ops[i]? = some o) (hv : vs[i]? = some v) (hr : i ∈ Region.ready .any ops L)
    {nx : Nat} {lv : Nat → Prop} (h1 : σ.m.nx ≤ nx) (h2 : ∀ j, σ.m.lv j → lv j) : JL ops vs σ0 (L.setIfInBounds i true) (AS.put ⟨σ.s, ⟨σ.m.h, σ.m.o, nx, lv⟩⟩ o.dst v) := by
  obtain ⟨hun, o', ho', hall⟩ := mem_ready.1 hr
  rw [hi] at ho'
  cases ho'
  have hsz := J.size
  have hilt := (Array.getElem?_eq_some_iff.1 hi).1
  have hset : ∀ k, (L.setIfInBounds i true).getD k false = true → k = i ∨ L.getD k false = true := fun k hk => by
    by_cases hki : k = i
    · exact .inl hki
    · rw [getD_set_ne false (Ne.symm hki)] at hk; exact .inr hk
  refine ⟨by simpa using hsz, by rw [put_len]; exact J.len, by rw [put_m]; exact J.h, by rw [put_m]; exact J.o, by rw [put_m]; exact Nat.le_trans J.nx h1, fun j hj => by rw [put_m]; exact h2 j (J.lv j hj), fun j oj hj hL e he hb => ?_,
    fun k ok u d hk hu hdk hL => ?_, fun t ht => ?_⟩
  · rcases hset j hL with rfl | hL
    · rw [hi] at hj; cases hj
      exact getD_set_true (hall e he hb)
    · exact getD_set_true (J.closed j oj hj hL e he hb)
  · rcases hset k hL with rfl | hL
    · rw [hi] at hk; cases hk
      rw [hv] at hu; cases hu
      rw [hdk, put_eq]
      simp only [J.len]
    · by_cases hki : k = i
      · subst hki
        rw [hi] at hk; cases hk
        rw [hv] at hu; cases hu
        rw [hdk, put_eq]
        simp only [J.len]
      · rw [put_ne (hd.once k i ok o d hki hk hi hdk)]
        exact J.done k ok u d hk hu hdk hL
  · have hi2 : (L.setIfInBounds i true).getD i false = true := by
      simp [show i < L.size by omega]
    rw [put_ne (ht i o hi hi2)]
    exact J.rest t fun k ok hk hL => ht k ok hk (getD_set_true hL)

theorem ready_nil (hd : DrawOk ops) {L : Array Bool} (hs : L.size = ops.size) (h : Region.ready .any ops L = []) : ∀ i, i < ops.size → L.getD i false = true := by
  intro i
  induction i using Nat.strongRecOn with
  | _ i ih =>
    intro hlt
    cases hL : L.getD i false with
    | true => rfl
    | false =>
      have : i ∈ Region.ready .any ops L := by
        refine mem_ready.2 ⟨?_, ops[i], Array.getElem?_eq_getElem hlt, fun e he hb => ?_⟩
        · simp only [Array.getD_eq_getD_getElem?] at hL ⊢
          have hl : i < L.size := by omega
          simp only [Array.getElem?_eq_getElem hl, Option.getD_some] at hL ⊢
          exact hL
        · have := hd.back i _ (Array.getElem?_eq_getElem hlt) e he hb
          exact ih e.on this (by omega)
      rw [h] at this
      cases this

theorem JL.final (hd : DrawOk ops) (hl : vs.length = ops.size) {L : Array Bool} {σ : AS} (J : JL ops vs σ0 L σ) (h : Region.ready .any ops L = []) : σ.s = (puts σ0 ops.toList vs).s := by
  have hall := ready_nil hd J.size h
  have hnth : ∀ t, nth σ.s t = nth (puts σ0 ops.toList vs).s t := by
    intro t
    by_cases hw : ∃ (j : Nat) (oj : Oper), ops[j]? = some oj ∧ oj.dst = some t
    · obtain ⟨j, oj, hj, hdj⟩ := hw
      have hjlt := (Array.getElem?_eq_some_iff.1 hj).1
      have hv := List.getElem?_eq_getElem (l := vs) (i := j) (by omega)
      rw [J.done j oj _ t hj hv hdj (hall j hjlt)]
      rw [puts_done ops.toList σ0 vs j oj _ (by simpa using hj) hv hdj (fun k o' hk ho' => hd.once j k oj o' t (by omega) hj (by simpa using ho') hdj)]
    · rw [puts_rest _ _ _ (fun o' ho' => by
        obtain ⟨k, hk⟩ := List.getElem?_of_mem ho'
        exact fun hdk => hw ⟨k, o', by simpa using hk, hdk⟩)]
      exact J.rest t fun k ok hk hL hdk => hw ⟨k, ok, hk, hdk⟩
  have hlen : σ.s.length = (puts σ0 ops.toList vs).s.length := by rw [puts_len]; exact J.len
  apply List.ext_getElem?
  intro t
  rcases Nat.lt_or_ge t σ.s.length with hlt | hge
  · rw [nth_lt hlt, nth_lt (by omega), hnth]
  · rw [List.getElem?_eq_none hge, List.getElem?_eq_none (by omega)]

theorem any_ok (hT : TabsOk P E) (hd : DrawOk ops) (hl : vs.length = ops.size) (hy : ∀ (i : Nat) (o : Oper) (v : AV), ops.toList[i]? = some o → vs[i]? = some v → YieldsA P ops o v (puts σ0 (ops.toList.take i) (vs.take i)))
    {Q : Exit → AS → Prop} (hK : ∀ nx lv, σ0.m.nx ≤ nx → (∀ j, σ0.m.lv j → lv j) → Q .normal ⟨(puts σ0 ops.toList vs).s, ⟨σ0.m.h, σ0.m.o, nx, lv⟩⟩) :
    ∀ (fuel : Nat) (L : Array Bool) (σ : AS) (a : Act) (w : World), (L.toList.filter (fun b => !b)).length ≤ fuel → JL ops vs σ0 L σ → St E σ a w → wpAny P .any ops (Lift E Q) fuel L a w := by
  have fin : ∀ (L : Array Bool) (σ : AS) (a : Act) (w : World), JL ops vs σ0 L σ → St E σ a w → Region.ready .any ops L = [] → Lift E Q .normal a w := by
    intro L σ a w J hst hr
    refine ⟨σ, hst, ?_⟩
    have h1 := J.final hd hl hr
    have := hK σ.m.nx σ.m.lv J.nx J.lv
    rw [← h1, ← J.h, ← J.o] at this
    exact this
  intro fuel
  induction fuel with
  | zero =>
    intro L σ a w hc J hst
    have hr : Region.ready .any ops L = [] := by
      apply List.eq_nil_iff_forall_not_mem.2
      intro i hi
      have hun := (mem_ready.1 hi).1
      have : i < L.size := by
        rcases Nat.lt_or_ge i L.size with h | h
        · exact h
        · simp [Array.getElem?_eq_none h] at hun
      have hm : false ∈ L.toList.filter (fun b => !b) := by
        simp only [Array.getD_eq_getD_getElem?, Array.getElem?_eq_getElem this, Option.getD_some] at hun
        rw [List.mem_filter]
        exact ⟨by rw [← hun]; simp, rfl⟩
      rw [List.eq_nil_of_length_eq_zero (Nat.le_zero.1 hc)] at hm
      cases hm
    exact ⟨hr, fin L σ a w J hst hr⟩
  | succ fuel ih =>
    intro L σ a w hc J hst
    refine ⟨fun hr => fin L σ a w J hst hr, fun i hi => ?_⟩
    obtain ⟨hun, o, ho, hall⟩ := mem_ready.1 hi
    have hilt := (Array.getElem?_eq_some_iff.1 ho).1
    have hv := List.getElem?_eq_getElem (l := vs) (i := i) (by omega)
    have ag := J.agree hd hl ho hi
    have key := hy i o _ (by simpa using ho) hv σ ag (fun τ => JL ops vs σ0 (L.setIfInBounds i true) τ) (fun nx lv g1 g2 => J.step hd ho hv hi g1 g2)
    have hlt : i < L.size := by have := J.size; omega
    refine wpOp_mono ?_ (exG_ok hT ho key hst)
    rintro a' w' ⟨σ', hst', J'⟩
    have J2 : ∃ σ', St E σ' a' w' ∧ JL ops vs σ0 (L.setIfInBounds i true) σ' := J'.elim (fun J' => ⟨σ', hst', J'⟩) (fun J' => ⟨_, hst'.erAt o.dst, J'⟩)
    clear J' hst'
    clear σ'
    obtain ⟨σ', hst', J'⟩ := J2
    refine ih _ σ' a' w' ?_ J' hst'
    have hf : L.toList[i]'(by simpa using hlt) = false := by
      simp only [Array.getD_eq_getD_getElem?, Array.getElem?_eq_getElem hlt, Option.getD_some] at hun
      simpa using hun
    have : (L.setIfInBounds i true).toList = L.toList.set i true := by simp
    rw [this]
    have e1 : ((L.toList.set i true).filter (fun b => !b)).length + 1 = (L.toList.filter (fun b => !b)).length := by
      rw [← List.countP_eq_length_filter, ← List.countP_eq_length_filter, List.countP_set (by simpa using hlt), hf]
      have : 0 < List.countP (fun b => !b) L.toList := List.countP_pos_iff.2 ⟨false, by rw [← hf]; exact List.getElem_mem _, rfl⟩
      simp only [Bool.not_false, Bool.not_true, if_true, Bool.false_eq_true, if_false]
      omega
    omega

theorem St.drawn {σ : AS} {a : Act} {w : World} (h : St E σ a w) : St E σ a { w with drawn := w.drawn + 1 } := by
  obtain ⟨G, hi, hs, hd, hr⟩ := h
  have hx : Ext G w G { w with drawn := w.drawn + 1 } := ⟨fun _ _ h => h, fun _ _ _ => rfl, fun _ _ h => h, Nat.le_refl _, fun _ _ _ h => h⟩
  refine ⟨G, ⟨⟨hi.kept.os, hi.kept.tape, hi.kept.output, hi.kept.size, hi.kept.block⟩, fun l cs hc => ?_, hi.gen, fun i hl => ?_, hi.lt, hi.nx, hi.fresh, hi.ext.trans hx, hi.st1⟩, hs, hd, fun t => (hr t).ext hx⟩
  · obtain ⟨b, o, h1, h2, h3, h4, h5⟩ := hi.box l cs hc
    exact ⟨b, o, h1, h2, h3, h4, fun h0 j c hj => by
      obtain ⟨h6, v, h7, h8, h9⟩ := h5.1 h0 j c hj
      exact ⟨h6, v, h7, h8, h9.ext hx⟩, fun h0 => by
      rcases h5.2 h0 with ⟨ks, vs, es, cl, k1, k2, k3⟩ | hb
      · exact .inl ⟨ks, vs, es, cl, k1, k2, k3.ext hx⟩
      · exact .inr hb⟩
  · exact hi.tok i hl

/-- A region that draws, its operations writing nothing: as in the order of the text. -/
theorem AW_draw {id : Nat} {Q : Exit → AS → Prop} (hm : P.follows .mixedOrders = true) (hB : drawB ops = true)
    (h : exOpsD P ops ops.toList σ0 (fun τ => ∀ nx lv, τ.m.nx ≤ nx → (∀ j, τ.m.lv j → lv j) → Q .normal ⟨τ.s, ⟨τ.m.h, τ.m.o, nx, lv⟩⟩)) : AW P E (.region id ops true) Q σ0 := by
  unfold AW
  intro hT a w hst
  obtain ⟨vs, g1, g2, g3⟩ := text _ _ _ h
  have hd := drawB_spec hB
  refine wp_region_any hm ?_
  refine any_ok (E := E) (P := P) (vs := vs) (σ0 := σ0) hT hd (by simpa using g1) g3 ?_ _ _ σ0 a _ ?_ ?_ (St.drawn hst)
  · intro nx lv h1 h2
    have := g2 nx lv (by rw [puts_m]; exact h1) (fun j hj => h2 j (by rw [puts_m] at hj; exact hj))
    rw [puts_m] at this
    exact this
  · exact Nat.le_trans (List.length_filter_le _ _) (by simp)
  · refine ⟨by simp, rfl, rfl, rfl, Nat.le_refl _, fun _ x => x, fun j o hj hL => ?_, fun i o v d _ _ _ hL => ?_, fun t _ => rfl⟩
    · exfalso
      revert hL
      simp only [Array.getD_eq_getD_getElem?, Array.getElem?_replicate]
      split <;> simp
    · exfalso
      revert hL
      simp only [Array.getD_eq_getD_getElem?, Array.getElem?_replicate]
      split <;> simp
end

end Go.AB
