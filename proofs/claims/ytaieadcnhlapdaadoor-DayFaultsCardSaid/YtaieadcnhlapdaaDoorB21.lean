/- Regions that draw their order, whose effects come last and in one order. -/
import Derived.Test.YtaieadcnhlapdaaDoorB20
namespace Go.AB

/-- Earlier operations that an operation waits for, at once or through others. -/
inductive Anc (ops : Array Oper) : Nat → Nat → Prop where
  | one (j : Nat) (o : Oper) (e : Edge) : ops[j]? = some o → e ∈ o.after → Region.binds .any e = true → Anc ops j e.on
  | more (j i : Nat) (o : Oper) (e : Edge) : ops[j]? = some o → e ∈ o.after → Region.binds .any e = true → Anc ops e.on i → Anc ops j i

def ancStep (acc : List (List Nat)) (o : Oper) : List (List Nat) :=
  acc ++ [((o.after.toList.filter fun e => Region.binds .any e).flatMap fun e => e.on :: acc.getD e.on []).eraseDups]
def ancs (l : List Oper) : List (List Nat) := l.foldl ancStep []

theorem ancs_go {ops : Array Oper} : ∀ (l pre : List Oper) (acc : List (List Nat)), ops.toList = pre ++ l → acc.length = pre.length → (∀ j i, i ∈ acc.getD j [] → Anc ops j i) →
    ∀ j i, i ∈ (l.foldl ancStep acc).getD j [] → Anc ops j i
  | [], _, acc, _, _, h => h
  | o :: l, pre, acc, he, hl, h => by
    rw [List.foldl_cons]
    refine ancs_go l (pre ++ [o]) _ (by simp [he]) (by simp [ancStep, hl]) (fun j i hi => ?_)
    by_cases hj : j < acc.length
    · rw [ancStep, List.getD_eq_getElem?_getD, List.getElem?_append_left hj, ← List.getD_eq_getElem?_getD] at hi
      exact h j i hi
    · rw [ancStep, List.getD_eq_getElem?_getD, List.getElem?_append_right (by omega)] at hi
      by_cases hj2 : j - acc.length = 0
      · rw [hj2] at hi
        simp only [List.getElem?_cons_zero, Option.getD_some, List.mem_eraseDups, List.mem_flatMap, List.mem_filter, List.mem_cons] at hi
        have ho : ops[j]? = some o := by
          rw [← Array.getElem?_toList, he, List.getElem?_append_right (by omega)]
          rw [show j - pre.length = 0 by omega]; rfl
        obtain ⟨e, ⟨he1, he2⟩, rfl | hi⟩ := hi
        · exact .one j o e ho (by simpa using he1) he2
        · exact .more j i o e ho (by simpa using he1) he2 (h _ _ hi)
      · rw [List.getElem?_eq_none (by simp; omega)] at hi
        simp at hi

/-- From k on each operation waits for all earlier ones. -/
def forcedB (ops : Array Oper) (k : Nat) : Bool := (List.range ops.size).all fun j => decide (j < k) || (List.range j).all fun i => ((ancs ops.toList).getD j []).contains i

theorem forcedB_spec {ops : Array Oper} {k : Nat} (h : forcedB ops k = true) : ∀ j, k ≤ j → j < ops.size → ∀ i, i < j → Anc ops j i := by
  intro j hk hj i hi
  have h1 := List.all_eq_true.1 h j (List.mem_range.2 hj)
  simp only [Bool.or_eq_true, decide_eq_true_eq] at h1
  have h2 := List.all_eq_true.1 (h1.resolve_left (by omega)) i (List.mem_range.2 hi)
  refine ancs_go ops.toList [] [] (by simp) rfl (fun j i hi => by simp at hi) j i ?_
  exact List.contains_iff_mem.1 h2

/-- As 'drawB', the operations from k on aside. -/
def drawB2 (ops : Array Oper) (k : Nat) : Bool := (List.range ops.size).all fun j => match ops[j]? with
  | some oj => (oj.after.all fun e => !Region.binds .any e || decide (e.on < j)) &&
    (List.range j).all fun i => match ops[i]? with
      | some oi => (decide (k ≤ j) || directly ops i j || oi.apart ops oj) && (oi.dst == none || oi.dst != oj.dst)
      | none => true
  | none => true

structure DrawOk2 (ops : Array Oper) (k : Nat) : Prop where
  back : ∀ (j : Nat) o, ops[j]? = some o → ∀ e ∈ o.after, Region.binds .any e = true → e.on < j
  apart : ∀ (i j : Nat) oi oj, i < j → j < k → ops[i]? = some oi → ops[j]? = some oj → (∃ e ∈ oj.after, Region.binds .any e = true ∧ e.on = i) ∨ oi.apart ops oj = true
  once : ∀ (i j : Nat) oi oj d, i ≠ j → ops[i]? = some oi → ops[j]? = some oj → oi.dst = some d → oj.dst ≠ some d

theorem drawB2_spec {ops : Array Oper} {k : Nat} (h : drawB2 ops k = true) : DrawOk2 ops k := by
  have h0 : ∀ (j : Nat) oj, ops[j]? = some oj → (∀ e ∈ oj.after, Region.binds .any e = true → e.on < j) ∧
      ∀ (i : Nat) oi, i < j → ops[i]? = some oi → (j < k → (∃ e ∈ oj.after, Region.binds .any e = true ∧ e.on = i) ∨ oi.apart ops oj = true) ∧ (oi.dst = none ∨ oi.dst ≠ oj.dst) := by
    intro j oj hj
    have hlt := (Array.getElem?_eq_some_iff.1 hj).1
    have h1 := List.all_eq_true.1 h j (List.mem_range.2 hlt)
    simp only [hj, Bool.and_eq_true] at h1
    obtain ⟨h1, h2⟩ := h1
    refine ⟨fun e he hb => ?_, fun i oi hij hi => ?_⟩
    · have := Array.all_eq_true_iff_forall_mem.1 h1 e he
      simpa [hb] using this
    · have h3 := List.all_eq_true.1 h2 i (List.mem_range.2 hij)
      simp only [hi, Bool.and_eq_true, Bool.or_eq_true, decide_eq_true_eq] at h3
      obtain ⟨h3, h4⟩ := h3
      refine ⟨fun hk => ?_, ?_⟩
      · rcases h3 with (h3 | h3) | h3
        · omega
        · left
          simp only [directly, hj] at h3
          obtain ⟨e, he, hb⟩ := Array.any_eq_true'.1 h3
          simp only [Bool.and_eq_true, beq_iff_eq] at hb
          exact ⟨e, he, hb⟩
        · exact .inr h3
      · rcases h4 with h4 | h4
        · exact .inl (by simpa using h4)
        · exact .inr (by simpa using h4)
  refine ⟨fun j o hj => (h0 j o hj).1, fun i j oi oj hij hk hi hj => ((h0 j oj hj).2 i oi hij hi).1 hk, fun i j oi oj d hne hi hj hd hd' => ?_⟩
  rcases Nat.lt_or_gt_of_ne hne with hlt | hlt
  · rcases ((h0 j oj hj).2 i oi hlt hi).2 with h1 | h1
    · rw [h1] at hd; cases hd
    · exact h1 (hd.trans hd'.symm)
  · rcases ((h0 i oi hi).2 j oj hlt hj).2 with h1 | h1
    · rw [h1] at hd'; cases hd'
    · exact h1 (hd'.trans hd.symm)

section
variable {P : Program} {E : Env} {ops : Array Oper} {vs : List AV} {σ0 : AS}

theorem JL.agree2 {k0 : Nat} (hd : DrawOk2 ops k0) (hl : vs.length = ops.size) {L : Array Bool} {σ : AS} (J : JL ops vs σ0 L σ) {i : Nat} {o : Oper} (hph : ∀ j, k0 ≤ j → L.getD j false = false) (hik : i < k0) (hi : ops[i]? = some o) (hr : i ∈ Region.ready .any ops L) :
    Agree ops o (puts σ0 (ops.toList.take i) (vs.take i)) σ := by
  obtain ⟨hun, o', ho', hall⟩ := mem_ready.1 hr
  rw [hi] at ho'
  cases ho'
  have hilt := (Array.getElem?_eq_some_iff.1 hi).1
  have hun' : L.getD i false = false := by
    have hsz := J.size
    simp only [Array.getD_eq_getD_getElem?] at hun ⊢
    have : i < L.size := by omega
    simp only [Array.getElem?_eq_getElem this, Option.getD_some] at hun ⊢
    exact hun
  refine ⟨fun t ht => ?_, by rw [puts_m, J.h], by rw [puts_m, J.o]⟩
  have hvi : ∀ j, j < ops.size → ∃ v, vs[j]? = some v := fun j hj => ⟨_, List.getElem?_eq_getElem (by omega)⟩
  by_cases hw : ∃ (j : Nat) (oj : Oper), ops[j]? = some oj ∧ oj.dst = some t
  · obtain ⟨j, oj, hj, hdj⟩ := hw
    have hjlt := (Array.getElem?_eq_some_iff.1 hj).1
    obtain ⟨v, hv⟩ := hvi j hjlt
    rcases Nat.lt_trichotomy j i with hlt | heq | hgt
    · have hL : L.getD j false = true := by
        rcases hd.apart j i oj o hlt hik hj hi with ⟨e, he, hb, heq⟩ | hap
        · rw [← heq]; exact hall e he hb
        · exact absurd ht ((Oper.apart_spec hap).1 t hdj)
      rw [J.done j oj v t hj hv hdj hL]
      rw [puts_done (ops.toList.take i) σ0 (vs.take i) j oj v (by rw [List.getElem?_take]; simp [hlt, hj]) (by rw [List.getElem?_take]; simp [hlt, hv]) hdj
        (fun k o' hk ho' => by
          rw [List.getElem?_take] at ho'
          split at ho'
          · exact hd.once j k oj o' t (by omega) hj (by simpa using ho') hdj
          · cases ho')]
    · subst heq
      rw [hi] at hj
      cases hj
      rw [puts_rest _ _ _ (fun o' ho' => by
        obtain ⟨k, hk⟩ := List.getElem?_of_mem ho'
        rw [List.getElem?_take] at hk
        split at hk
        · exact hd.once j k o o' t (by omega) hi (by simpa using hk) hdj
        · cases hk)]
      exact J.rest t fun k ok hk hL hdk => by
        by_cases hjk : k = j
        · subst hjk; rw [hun'] at hL; cases hL
        · exact hd.once k j ok o t hjk hk hi hdk hdj
    · have hLj : ¬ L.getD j false = true := fun hL => by
        have hjk : j < k0 := by
          rcases Nat.lt_or_ge j k0 with h | h
          · exact h
          · rw [hph j h] at hL; cases hL
        rcases hd.apart i j o oj hgt hjk hi hj with ⟨e, he, hb, heq⟩ | hap
        · have := J.closed j oj hj hL e he hb
          rw [heq, hun'] at this
          cases this
        · exact absurd ht ((Oper.apart_spec hap).2.2 t hdj)
      rw [puts_rest _ _ _ (fun o' ho' => by
        obtain ⟨k, hk⟩ := List.getElem?_of_mem ho'
        rw [List.getElem?_take] at hk
        split at hk
        · exact hd.once j k oj o' t (by omega) hj (by simpa using hk) hdj
        · cases hk)]
      exact J.rest t fun k ok hk hL hdk => by
        by_cases hjk : k = j
        · subst hjk; exact hLj hL
        · exact hd.once k j ok oj t hjk hk hj hdk hdj
  · rw [puts_rest _ _ _ (fun o' ho' => by
      obtain ⟨k, hk⟩ := List.getElem?_of_mem ho'
      rw [List.getElem?_take] at hk
      split at hk
      · exact fun hdk => hw ⟨k, o', by simpa using hk, hdk⟩
      · cases hk)]
    exact J.rest t fun k ok hk hL hdk => hw ⟨k, ok, hk, hdk⟩

theorem JL.step2 {k0 : Nat} (hd : DrawOk2 ops k0) {L : Array Bool} {σ : AS} (J : JL ops vs σ0 L σ) {i : Nat} {o : Oper} {v : AV} (hi : ops[i]? = some o) (hv : vs[i]? = some v) (hr : i ∈ Region.ready .any ops L)
    {nx : Nat} {lv : Nat → Prop} (h1 : σ.m.nx ≤ nx) (h2 : ∀ j, σ.m.lv j → lv j) : JL ops vs σ0 (L.setIfInBounds i true) (AS.put ⟨σ.s, ⟨σ.m.h, σ.m.o, nx, lv⟩⟩ o.dst v) := by
  obtain ⟨hun, o', ho', hall⟩ := mem_ready.1 hr
  rw [hi] at ho'
  cases ho'
  have hsz := J.size
  have hilt := (Array.getElem?_eq_some_iff.1 hi).1
  have hset : ∀ k, (L.setIfInBounds i true).getD k false = true → k = i ∨ L.getD k false = true := fun k hk => by
    by_cases hki : k = i
    · exact .inl hki
    · rw [getD_set_ne false (Ne.symm hki)] at hk; exact .inr hk
  refine ⟨by simpa using hsz, by rw [put_len]; exact J.len, by rw [put_m]; exact J.h, by rw [put_m]; exact J.o, by rw [put_m]; exact Nat.le_trans J.nx h1, fun j hj => by rw [put_m]; exact h2 j (J.lv j hj), fun j oj hj hL e he hb => ?_,
    fun k ok u d hk hu hdk hL => ?_, fun t ht => ?_⟩
  · rcases hset j hL with rfl | hL
    · rw [hi] at hj; cases hj
      exact getD_set_true (hall e he hb)
    · exact getD_set_true (J.closed j oj hj hL e he hb)
  · rcases hset k hL with rfl | hL
    · rw [hi] at hk; cases hk
      rw [hv] at hu; cases hu
      rw [hdk, put_eq]
      simp only [J.len]
    · by_cases hki : k = i
      · subst hki
        rw [hi] at hk; cases hk
        rw [hv] at hu; cases hu
        rw [hdk, put_eq]
        simp only [J.len]
      · rw [put_ne (hd.once k i ok o d hki hk hi hdk)]
        exact J.done k ok u d hk hu hdk hL
  · have hi2 : (L.setIfInBounds i true).getD i false = true := by
      simp [show i < L.size by omega]
    rw [put_ne (ht i o hi hi2)]
    exact J.rest t fun k ok hk hL => ht k ok hk (getD_set_true hL)


/-- What an operation waits for has been, when it has been. -/
theorem Anc.done {L : Array Bool} (hc : ∀ (j : Nat) o, ops[j]? = some o → L.getD j false = true → ∀ e ∈ o.after, Region.binds .any e = true → L.getD e.on false = true) {j i : Nat} (h : Anc ops j i) (hj : L.getD j false = true) : L.getD i false = true := by
  induction h with
  | one j o e ho he hb => exact hc j o ho hj e he hb
  | more j i o e ho he hb _ ih => exact ih (hc j o ho hj e he hb)

theorem Anc.ready {L : Array Bool} (hc : ∀ (j : Nat) o, ops[j]? = some o → L.getD j false = true → ∀ e ∈ o.after, Region.binds .any e = true → L.getD e.on false = true) {j i : Nat} {o : Oper} (h : Anc ops j i) (ho : ops[j]? = some o) (hr : ∀ e ∈ o.after, Region.binds .any e = true → L.getD e.on false = true) : L.getD i false = true := by
  cases h with
  | one _ o' e ho' he hb => rw [ho] at ho'; cases ho'; exact hr e he hb
  | more _ _ o' e ho' he hb h => rw [ho] at ho'; cases ho'; exact h.done hc (hr e he hb)

theorem JL.final2 {k0 : Nat} (hd : DrawOk2 ops k0) (hl : vs.length = ops.size) (hk : k0 ≤ ops.size) {L : Array Bool} {σ : AS} (J : JL ops vs σ0 L σ) (hall : ∀ i, i < k0 → L.getD i false = true) (hph : ∀ j, k0 ≤ j → L.getD j false = false) :
    σ.s = (puts σ0 (ops.toList.take k0) (vs.take k0)).s := by
  have hnth : ∀ t, nth σ.s t = nth (puts σ0 (ops.toList.take k0) (vs.take k0)).s t := by
    intro t
    by_cases hw : ∃ (j : Nat) (oj : Oper), j < k0 ∧ ops[j]? = some oj ∧ oj.dst = some t
    · obtain ⟨j, oj, hjk, hj, hdj⟩ := hw
      have hv := List.getElem?_eq_getElem (l := vs) (i := j) (by omega)
      rw [J.done j oj _ t hj hv hdj (hall j hjk)]
      rw [puts_done (ops.toList.take k0) σ0 (vs.take k0) j oj _ (by rw [List.getElem?_take]; simp [hjk, hj]) (by rw [List.getElem?_take]; simp only [hjk, if_true]; exact hv) hdj (fun k o' hk ho' => by
        rw [List.getElem?_take] at ho'
        split at ho'
        · exact hd.once j k oj o' t (by omega) hj (by simpa using ho') hdj
        · cases ho')]
    · rw [puts_rest _ _ _ (fun o' ho' => by
        obtain ⟨k, hk⟩ := List.getElem?_of_mem ho'
        rw [List.getElem?_take] at hk
        split at hk
        · rename_i hlt
          exact fun hdk => hw ⟨k, o', hlt, by simpa using hk, hdk⟩
        · cases hk)]
      exact J.rest t fun k ok hk hL hdk => by
        rcases Nat.lt_or_ge k k0 with h | h
        · exact hw ⟨k, ok, h, hk, hdk⟩
        · rw [hph k h] at hL; cases hL
  have hlen : σ.s.length = (puts σ0 (ops.toList.take k0) (vs.take k0)).s.length := by rw [puts_len]; exact J.len
  apply List.ext_getElem?
  intro t
  rcases Nat.lt_or_ge t σ.s.length with hlt | hge
  · rw [nth_lt hlt, nth_lt (by omega), hnth]
  · rw [List.getElem?_eq_none hge, List.getElem?_eq_none (by omega)]

theorem count_set {L : Array Bool} {i : Nat} (hlt : i < L.size) (hun : L.getD i true = false) {fuel : Nat} (hc : (L.toList.filter (fun b => !b)).length ≤ fuel + 1) : ((L.setIfInBounds i true).toList.filter (fun b => !b)).length ≤ fuel := by
  have hf : L.toList[i]'(by simpa using hlt) = false := by
    simp only [Array.getD_eq_getD_getElem?, Array.getElem?_eq_getElem hlt, Option.getD_some] at hun
    simpa using hun
  have : (L.setIfInBounds i true).toList = L.toList.set i true := by simp
  rw [this]
  have e1 : ((L.toList.set i true).filter (fun b => !b)).length + 1 = (L.toList.filter (fun b => !b)).length := by
    rw [← List.countP_eq_length_filter, ← List.countP_eq_length_filter, List.countP_set (by simpa using hlt), hf]
    have : 0 < List.countP (fun b => !b) L.toList := List.countP_pos_iff.2 ⟨false, by rw [← hf]; exact List.getElem_mem _, rfl⟩
    simp only [Bool.not_false, Bool.not_true, if_true, Bool.false_eq_true, if_false]
    omega
  omega

theorem none_left {L : Array Bool} {i : Nat} (hlt : i < L.size) (hc : (L.toList.filter (fun b => !b)).length ≤ 0) : L.getD i false = true := by
  cases h : L.getD i false with
  | true => rfl
  | false =>
    have hm : false ∈ L.toList.filter (fun b => !b) := by
      simp only [Array.getD_eq_getD_getElem?, Array.getElem?_eq_getElem hlt, Option.getD_some] at h
      rw [List.mem_filter]
      exact ⟨by rw [← h]; simp, rfl⟩
    rw [List.eq_nil_of_length_eq_zero (Nat.le_zero.1 hc)] at hm
    cases hm

theorem undone {L : Array Bool} {i : Nat} (hun : L.getD i true = false) : L.getD i false = false ∧ i < L.size := by
  have hlt : i < L.size := by
    rcases Nat.lt_or_ge i L.size with h | h
    · exact h
    · simp [h] at hun
  refine ⟨?_, hlt⟩
  simp only [Array.getD_eq_getD_getElem?, Array.getElem?_eq_getElem hlt, Option.getD_some] at hun ⊢
  exact hun

/-- The operations from p on, one after the other. -/
theorem seq_ok {k0 : Nat} (hT : TabsOk P E) (hF : ∀ j, k0 ≤ j → j < ops.size → ∀ i, i < j → Anc ops j i) (hback : ∀ (j : Nat) o, ops[j]? = some o → ∀ e ∈ o.after, Region.binds .any e = true → e.on < j) {Q : Exit → AS → Prop} :
    ∀ (fuel p : Nat) (L : Array Bool) (σ : AS) (a : Act) (w : World), k0 ≤ p → p ≤ ops.size → L.size = ops.size → (∀ j, j < ops.size → (L.getD j false = true ↔ j < p)) → (L.toList.filter (fun b => !b)).length ≤ fuel → St E σ a w →
      exOps P ops (ops.toList.drop p) σ (Q .normal) → wpAny P .any ops (Lift E Q) fuel L a w := by
  intro fuel
  induction fuel with
  | zero =>
    intro p L σ a w hkp hp hsz hL hc hst h
    have hall : ∀ i, i < ops.size → L.getD i false = true := fun i hi => none_left (by omega) hc
    have hpe : p = ops.size := by
      rcases Nat.lt_or_ge p ops.size with h | h
      · have := (hL p h).1 (hall p h); omega
      · omega
    subst hpe
    have hr : Region.ready .any ops L = [] := by
      apply List.eq_nil_iff_forall_not_mem.2
      intro i hi
      obtain ⟨h1, h2⟩ := undone (mem_ready.1 hi).1
      rw [hall i (by omega)] at h1; cases h1
    refine ⟨hr, σ, hst, ?_⟩
    rw [List.drop_eq_nil_of_le (by simp), exOps_nil] at h
    exact h
  | succ fuel ih =>
    intro p L σ a w hkp hp hsz hL hc hst h
    refine ⟨fun hr => ?_, fun i hi => ?_⟩
    · have hpe : p = ops.size := by
        rcases Nat.lt_or_ge p ops.size with hlt | h
        · exfalso
          have hpL : L.getD p false = false := by
            cases hq : L.getD p false with
            | false => rfl
            | true => have := (hL p hlt).1 hq; omega
          have : p ∈ Region.ready .any ops L := by
            refine mem_ready.2 ⟨?_, ops[p], Array.getElem?_eq_getElem hlt, fun e he hb => ?_⟩
            · have hl : p < L.size := by omega
              simp only [Array.getD_eq_getD_getElem?, Array.getElem?_eq_getElem hl, Option.getD_some] at hpL ⊢
              exact hpL
            · have := hback p _ (Array.getElem?_eq_getElem hlt) e he hb
              exact (hL e.on (by omega)).2 this
          rw [hr] at this
          cases this
        · omega
      subst hpe
      rw [List.drop_eq_nil_of_le (by simp), exOps_nil] at h
      exact ⟨σ, hst, h⟩
    · obtain ⟨hun, o, ho, hall⟩ := mem_ready.1 hi
      obtain ⟨hun', hil⟩ := undone hun
      have hilt := (Array.getElem?_eq_some_iff.1 ho).1
      have hge : p ≤ i := by
        rcases Nat.lt_or_ge i p with h | h
        · have := (hL i hilt).2 h; rw [hun'] at this; cases this
        · exact h
      have hcl : ∀ (j : Nat) o, ops[j]? = some o → L.getD j false = true → ∀ e ∈ o.after, Region.binds .any e = true → L.getD e.on false = true := fun j o hj hLj e he hb => by
        have hjl := (Array.getElem?_eq_some_iff.1 hj).1
        have h1 := (hL j hjl).1 hLj
        have h2 := hback j o hj e he hb
        exact (hL e.on (by omega)).2 (by omega)
      have hpi : p = i := by
        rcases Nat.lt_or_ge p i with h | h
        · have h1 := (hF i (by omega) hilt p h).ready hcl ho hall
          have := (hL p (by omega)).1 h1
          omega
        · omega
      subst hpi
      have hdrop : ops.toList.drop p = o :: ops.toList.drop (p + 1) := by
        rw [List.drop_eq_getElem_cons (by simpa using hilt)]
        congr 1
        have := (Array.getElem?_eq_some_iff.1 ho).2
        simpa using this
      rw [hdrop, exOps_cons] at h
      refine wpOp_mono ?_ (exG_ok hT ho h hst)
      rintro a' w' ⟨σ', hst', h'⟩
      rw [kOps_eq] at h'
      refine ih (p + 1) _ σ' a' w' (by omega) (by omega) (by simpa using hsz) (fun j hj => ?_) (count_set (by omega) hun hc) hst' h'
      by_cases hjp : j = p
      · subst hjp
        simp [show j < L.size by omega]
      · rw [getD_set_ne false (Ne.symm hjp), hL j hj]
        omega

theorem any_ok2 {k0 : Nat} (hT : TabsOk P E) (hd : DrawOk2 ops k0) (hF : ∀ j, k0 ≤ j → j < ops.size → ∀ i, i < j → Anc ops j i) (hk0 : k0 < ops.size) (hl : vs.length = ops.size)
    (hy : ∀ (i : Nat) (o : Oper) (v : AV), i < k0 → ops.toList[i]? = some o → vs[i]? = some v → YieldsA P ops o v (puts σ0 (ops.toList.take i) (vs.take i)))
    {Q : Exit → AS → Prop} (hK : ∀ nx lv, σ0.m.nx ≤ nx → (∀ j, σ0.m.lv j → lv j) → exOps P ops (ops.toList.drop k0) ⟨(puts σ0 (ops.toList.take k0) (vs.take k0)).s, ⟨σ0.m.h, σ0.m.o, nx, lv⟩⟩ (Q .normal)) :
    ∀ (fuel : Nat) (L : Array Bool) (σ : AS) (a : Act) (w : World), (L.toList.filter (fun b => !b)).length ≤ fuel → JL ops vs σ0 L σ → (∀ j, k0 ≤ j → L.getD j false = false) → St E σ a w → wpAny P .any ops (Lift E Q) fuel L a w := by
  intro fuel
  induction fuel with
  | zero =>
    intro L σ a w hc J hph hst
    have := none_left (L := L) (i := k0) (by have := J.size; omega) hc
    rw [hph k0 (Nat.le_refl _)] at this; cases this
  | succ fuel ih =>
    intro L σ a w hc J hph hst
    by_cases hpre : ∀ i, i < k0 → L.getD i false = true
    · have h1 := J.final2 hd hl (by omega) hpre hph
      have h := hK σ.m.nx σ.m.lv J.nx J.lv
      rw [← h1, ← J.h, ← J.o] at h
      refine seq_ok hT hF hd.back (fuel + 1) k0 L σ a w (Nat.le_refl _) (by omega) J.size (fun j hj => ⟨fun hL => ?_, fun hj => hpre j hj⟩) hc hst h
      rcases Nat.lt_or_ge j k0 with h | h
      · exact h
      · rw [hph j h] at hL; cases hL
    · refine ⟨fun hr => ?_, fun i hi => ?_⟩
      · exfalso
        apply hpre
        intro i
        induction i using Nat.strongRecOn with
        | _ i ihi =>
          intro hlt
          cases hL : L.getD i false with
          | true => rfl
          | false =>
            have hsz := J.size
            have hio : i < ops.size := by omega
            have : i ∈ Region.ready .any ops L := by
              refine mem_ready.2 ⟨?_, ops[i], Array.getElem?_eq_getElem hio, fun e he hb => ?_⟩
              · have hl : i < L.size := by omega
                simp only [Array.getD_eq_getD_getElem?, Array.getElem?_eq_getElem hl, Option.getD_some] at hL ⊢
                exact hL
              · have := hd.back i _ (Array.getElem?_eq_getElem hio) e he hb
                exact ihi e.on this (by omega)
            rw [hr] at this
            cases this
      · obtain ⟨hun, o, ho, hall⟩ := mem_ready.1 hi
        have hilt := (Array.getElem?_eq_some_iff.1 ho).1
        have hik : i < k0 := by
          rcases Nat.lt_or_ge i k0 with h | h
          · exact h
          · exfalso
            apply hpre
            intro m hm
            exact (hF i h hilt m (by omega)).ready J.closed ho hall
        have hv := List.getElem?_eq_getElem (l := vs) (i := i) (by omega)
        have ag := J.agree2 hd hl hph hik ho hi
        have key := hy i o _ hik (by simpa using ho) hv σ ag (fun τ => JL ops vs σ0 (L.setIfInBounds i true) τ) (fun nx lv g1 g2 => J.step2 hd ho hv hi g1 g2)
        have hlt : i < L.size := by have := J.size; omega
        refine wpOp_mono ?_ (exG_ok hT ho key hst)
        rintro a' w' ⟨σ', hst', J'⟩
        have hph' : ∀ j, k0 ≤ j → (L.setIfInBounds i true).getD j false = false := fun j hj => by
          rw [getD_set_ne false (show i ≠ j by omega)]; exact hph j hj
        rcases J' with J' | J'
        · exact ih _ σ' a' w' (count_set hlt hun hc) J' hph' hst'
        · exact ih _ _ a' w' (count_set hlt hun hc) J' hph' (hst'.erAt o.dst)

/-- A region that draws: k operations that write nothing, in any order; then the others, in the one order that there is. -/
theorem AW_draw2 {id k : Nat} {Q : Exit → AS → Prop} (hm : P.follows .mixedOrders = true) (hB : drawB2 ops k = true) (hF : forcedB ops k = true) (hk : k < ops.size)
    (h : exOpsD P ops (ops.toList.take k) σ0 (fun τ => ∀ nx lv, τ.m.nx ≤ nx → (∀ j, τ.m.lv j → lv j) → exOps P ops (ops.toList.drop k) ⟨τ.s, ⟨τ.m.h, τ.m.o, nx, lv⟩⟩ (Q .normal))) : AW P E (.region id ops true) Q σ0 := by
  unfold AW
  intro hT a w hst
  obtain ⟨vs, g1, g2, g3⟩ := text _ _ _ h
  have hd := drawB2_spec hB
  have hvl : vs.length = k := by rw [g1]; simp; omega
  have htk : ∀ n, n ≤ k → (vs ++ List.replicate (ops.size - k) undefA).take n = vs.take n := fun n hn => by rw [List.take_append_of_le_length (by omega)]
  have ht2 : ∀ n, n ≤ k → (ops.toList.take k).take n = ops.toList.take n := fun n hn => by rw [List.take_take, Nat.min_eq_left hn]
  refine wp_region_any hm ?_
  refine any_ok2 (E := E) (P := P) (vs := vs ++ List.replicate (ops.size - k) undefA) (σ0 := σ0) hT hd (forcedB_spec hF) hk (by simp; omega) (fun i o v hik hi hv => ?_) ?_ _ _ σ0 a _ ?_ ?_ (fun j _ => ?_) (St.drawn hst)
  · have := g3 i o v (by rw [List.getElem?_take_of_lt hik]; exact hi) (by rw [List.getElem?_append_left (by omega)] at hv; exact hv)
    rw [ht2 i (by omega)] at this
    rw [htk i (by omega)]
    exact this
  · intro nx lv h1 h2
    have := g2 nx lv (by rw [puts_m]; exact h1) (fun j hj => h2 j (by rw [puts_m] at hj; exact hj))
    rw [puts_m] at this
    rw [htk k (Nat.le_refl _), show vs.take k = vs from List.take_of_length_le (by omega)]
    exact this
  · exact Nat.le_trans (List.length_filter_le _ _) (by simp)
  · refine ⟨by simp, rfl, rfl, rfl, Nat.le_refl _, fun _ x => x, fun j o hj hL => ?_, fun i o v d _ _ _ hL => ?_, fun t _ => rfl⟩
    · exfalso
      revert hL
      simp only [Array.getD_eq_getD_getElem?, Array.getElem?_replicate]
      split <;> simp
    · exfalso
      revert hL
      simp only [Array.getD_eq_getD_getElem?, Array.getElem?_replicate]
      split <;> simp
  · simp only [Array.getD_eq_getD_getElem?, Array.getElem?_replicate]
    split <;> simp
end

def kDraw2 (P : Program) (ops : Array Oper) (rest : List Oper) (Q : Exit → AS → Prop) (τ : AS) : Prop := ∀ nx lv, τ.m.nx ≤ nx → (∀ j, τ.m.lv j → lv j) → exOps P ops rest ⟨τ.s, ⟨τ.m.h, τ.m.o, nx, lv⟩⟩ (Q .normal)
theorem kDraw2_eq {P : Program} {ops : Array Oper} {rest : List Oper} {Q : Exit → AS → Prop} {τ : AS} : kDraw2 P ops rest Q τ = (∀ nx lv, τ.m.nx ≤ nx → (∀ j, τ.m.lv j → lv j) → exOps P ops rest ⟨τ.s, ⟨τ.m.h, τ.m.o, nx, lv⟩⟩ (Q .normal)) := (rfl)
attribute [go_sem] kDraw2_eq
theorem drawn2 {P : Program} {E : Env} (k : Nat) {id : Nat} {ops : List Oper} {Q : Exit → AS → Prop} {σ0 : AS} (hm : P.follows .mixedOrders = true) (hB : drawB2 ops.toArray k = true) (hF : forcedB ops.toArray k = true) (hk : k < ops.toArray.size)
    (h : exOpsD P ops.toArray (ops.take k) σ0 (kDraw2 P ops.toArray (ops.drop k) Q)) : AW P E (.region id ops.toArray true) Q σ0 := AW_draw2 hm hB hF hk h

end Go.AB
