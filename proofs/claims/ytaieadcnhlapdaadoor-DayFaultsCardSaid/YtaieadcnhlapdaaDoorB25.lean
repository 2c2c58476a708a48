/- Maps: keys, what lies at them; making, looking up, updating. Calls that share the caller's memory. -/
import Derived.Test.YtaieadcnhlapdaaDoorB23
import Derived.MapKept
namespace Go.AB
open Classical

def ckV : CK → AV → Bool
  | .int k, .int k' _ => decide (k' = k)
  | .bool, .bool _ => true
  | .str, .str _ => true
  | _, _ => false
def cksV : List CK → List AV → Bool
  | [], [] => true
  | c :: cs, x :: xs => ckV c x && cksV cs xs
  | _, _ => false
/-- A value that is a key of this type. -/
def keyA (P : Program) (t : Nat) (k : AV) : Bool := match k with
  | .agg xs => match stA P t with
    | some ks => cksV ks xs
    | none => false
  | k => match ckOf P t with
    | some c => ckV c k
    | none => false

def kval1 : AV → Value
  | .int k n => .int k n
  | .bool b => .bool b
  | .str s => .string ⟨s.toArray⟩
  | _ => undef

theorem ckV_rep {G : Gh} {w : World} {c : CK} {k : AV} {v : Value} (h : ckV c k = true) (hr : RepA G w k v) : v = kval1 k := by
  cases c <;> cases k <;> simp only [ckV, Bool.false_eq_true] at h <;> cases hr <;> rfl

theorem cksV_rep {G : Gh} {w : World} : ∀ {ks : List CK} {xs : List AV} {vs : List Value}, cksV ks xs = true → vs.length = xs.length → (∀ (i : Nat) (c : AV) (v : Value), xs[i]? = some c → vs[i]? = some v → RepA G w c v) → vs = xs.map kval1
  | [], [], vs, _, hl, _ => by cases vs <;> simp_all
  | [], _ :: _, vs, h, _, _ => by cases h
  | _ :: _, [], vs, h, _, _ => by cases h
  | c :: cs, x :: xs, [], _, hl, _ => by simp at hl
  | c :: cs, x :: xs, v :: vs, h, hl, hr => by
    simp only [cksV, Bool.and_eq_true] at h
    rw [ckV_rep h.1 (hr 0 x v rfl rfl), cksV_rep h.2 (by simpa using hl) (fun i c v hc hv => hr (i + 1) c v hc hv)]
    rfl

def kval : AV → Value
  | .agg xs => .agg (xs.map kval1).toArray
  | k => kval1 k

theorem keyA_rep {P : Program} {G : Gh} {w : World} {t : Nat} {k : AV} {v : Value} (h : keyA P t k = true) (hr : RepA G w k v) : v = kval k := by
  cases k with
  | agg xs =>
    simp only [keyA] at h
    split at h
    · cases hr with
      | agg _ vs h1 _ h2 => rw [cksV_rep h h1 h2]; rfl
    · cases h
  | _ =>
    simp only [keyA] at h
    split at h
    · exact ckV_rep h hr
    · cases h

theorem str_inj {a b : List UInt8} (h : (Value.string ⟨a.toArray⟩) = .string ⟨b.toArray⟩) : a = b := by
  injection h with h
  injection h with h
  simpa using congrArg Array.toList h

theorem ckV_inj {c : CK} {k k' : AV} (h : ckV c k = true) (h' : ckV c k' = true) (e : kval1 k = kval1 k') : k = k' := by
  cases c <;> cases k <;> simp only [ckV, Bool.false_eq_true] at h <;> cases k' <;> simp only [ckV, Bool.false_eq_true] at h' <;> simp only [kval1] at e
  · cases e; rfl
  · cases e; rfl
  · rw [str_inj e]

theorem cksV_inj : ∀ {ks : List CK} {xs ys : List AV}, cksV ks xs = true → cksV ks ys = true → xs.map kval1 = ys.map kval1 → xs = ys
  | [], [], [], _, _, _ => rfl
  | [], _ :: _, _, h, _, _ => by cases h
  | [], [], _ :: _, _, h, _ => by cases h
  | _ :: _, [], _, h, _, _ => by cases h
  | _ :: _, _ :: _, [], _, h, _ => by cases h
  | c :: cs, x :: xs, y :: ys, h, h', e => by
    simp only [cksV, Bool.and_eq_true] at h h'
    simp only [List.map_cons, List.cons.injEq] at e
    rw [ckV_inj h.1 h'.1 e.1, cksV_inj h.2 h'.2 e.2]

theorem keyA_inj {P : Program} {t : Nat} {k k' : AV} (h : keyA P t k = true) (h' : keyA P t k' = true) (hs : (∃ xs ys, k = .agg xs ∧ k' = .agg ys) ∨ (∃ c, ckV c k = true ∧ ckV c k' = true)) (e : kval k = kval k') : k = k' := by
  rcases hs with ⟨xs, ys, rfl, rfl⟩ | ⟨c, h1, h2⟩
  · simp only [keyA] at h h'
    split at h
    · rename_i ks hks
      rw [hks] at h'
      simp only [kval] at e
      injection e with e
      rw [cksV_inj h h' (by simpa using congrArg Array.toList e)]
    · cases h
  · refine ckV_inj h1 h2 ?_
    have : ∀ {x : AV}, ckV c x = true → kval x = kval1 x := fun {x} hx => by cases c <;> cases x <;> first | rfl | cases hx
    rw [← this h1, ← this h2, e]

/-- What lies at a key. -/
noncomputable def mget : List AV → List AV → AV → Option AV
  | k' :: ks, v :: vs, k => if k' = k then some v else mget ks vs k
  | _, _, _ => none
noncomputable def mset : List AV → List AV → AV → AV → List AV × List AV
  | k' :: ks, v' :: vs, k, v => if k' = k then (k' :: ks, v :: vs) else (k' :: (mset ks vs k v).1, v' :: (mset ks vs k v).2)
  | _, _, k, v => ([k], [v])
def mapP (p : List AV × List AV) : AV := .mapc p.1 p.2

/-- What a search for a key comes to. -/
def FindAt (G : Gh) (w : World) (ks vs : List AV) (k : AV) (n : Nat) (r : Option (Nat × Value)) : Prop :=
  (r = none ∧ mget ks vs k = none ∧ ∀ v', mset ks vs k v' = (ks ++ [k], vs ++ [v'])) ∨
  ∃ i x v, r = some (n + i, x) ∧ ks[i]? = some k ∧ vs[i]? = some v ∧ mget ks vs k = some v ∧ RepA G w v x ∧ ∀ v', mset ks vs k v' = (ks, vs.set i v')

theorem FindAt.hit {G : Gh} {w : World} {ks vs : List AV} {k v : AV} {n : Nat} {x : Value} (h : RepA G w v x) : FindAt G w (k :: ks) (v :: vs) k n (some (n, x)) :=
  .inr ⟨0, x, v, rfl, rfl, rfl, by simp [mget], h, fun v' => by simp [mset]⟩
theorem FindAt.miss {G : Gh} {w : World} {ks vs : List AV} {k k' v : AV} {n : Nat} {r : Option (Nat × Value)} (hne : k' ≠ k) (h : FindAt G w ks vs k (n + 1) r) : FindAt G w (k' :: ks) (v :: vs) k n r := by
  rcases h with ⟨h1, h2, h3⟩ | ⟨i, x, v0, h1, h2, h3, h4, h5, h6⟩
  · exact .inl ⟨h1, by simp [mget, hne, h2], fun v' => by simp [mset, hne, h3]⟩
  · exact .inr ⟨i + 1, x, v0, by rw [h1]; congr 2; omega, by simpa using h2, by simpa using h3, by simp [mget, hne, h4], h5, fun v' => by simp [mset, hne, h6]⟩

theorem EntsAt.cons {G : Gh} {w : World} {ks vs : List AV} {e : MapEntry} {es : List MapEntry} (h : EntsAt G w ks vs (e :: es)) :
    ∃ k ks' v vs', ks = k :: ks' ∧ vs = v :: vs' ∧ RepA G w k e.key ∧ RepA G w v e.val ∧ EntsAt G w ks' vs' es := by
  obtain ⟨h1, h2, h3⟩ := h
  cases ks with
  | nil => simp at h1
  | cons k ks =>
    cases vs with
    | nil => simp at h2
    | cons v vs =>
      obtain ⟨g1, g2⟩ := h3 0 k v e rfl rfl rfl
      exact ⟨k, ks, v, vs, rfl, rfl, g1, g2, by simpa using h1, by simpa using h2, fun i k' v' e' a b c => h3 (i + 1) k' v' e' (by simpa using a) (by simpa using b) (by simpa using c)⟩

section
variable {P : Program} {G : Gh} {w : World}

theorem ckV_same {c : CK} {d : TypeDesc} {k k' : AV} {t : Nat} (hd : P.underlying t = some d) (hc : ckOf P t = some c) (h : ckV c k = true) (h' : ckV c k' = true) : Instr.sameNow d (kval1 k) (kval1 k') = some (decide (k = k')) := by
  unfold ckOf at hc
  rw [hd] at hc
  cases c <;> cases k <;> simp only [ckV, Bool.false_eq_true] at h <;> cases k' <;> simp only [ckV, Bool.false_eq_true] at h'
  · simp at h h'
    subst h h'
    cases d <;> simp at hc
    simp only [kval1, Instr.sameNow, if_true, AV.int.injEq, true_and]
    rfl
  · cases d <;> simp at hc
    rename_i a b
    simp only [kval1, Instr.sameNow, AV.bool.injEq]
    cases a <;> cases b <;> rfl
  · cases d <;> simp at hc
    rename_i a b
    simp only [kval1, Instr.sameNow, AV.str.injEq]
    congr 1
    by_cases e : a = b
    · subst e
      simp only [decide_true]
      exact (MapKept.bytes_beq _ _).2 rfl
    · simp only [e, decide_false]
      cases hb : ((⟨a.toArray⟩ : ByteArray) == ⟨b.toArray⟩) with
      | false => rfl
      | true =>
        have := (MapKept.bytes_beq _ _).1 hb
        exact absurd (str_inj (by rw [this])) e

theorem findNow_ok {d : TypeDesc} {t : Nat} {c : CK} {k : AV} (hd : P.underlying t = some d) (hc : ckOf P t = some c) (hk : ckV c k = true) : ∀ (es : List MapEntry) (ks vs : List AV) (n : Nat), EntsAt G w ks vs es → (∀ k' ∈ ks, ckV c k' = true) →
    ∃ r, Instr.findNow d (kval1 k) es n = some r ∧ FindAt G w ks vs k n r
  | [], ks, vs, n, h, _ => by
    obtain ⟨h1, h2, _⟩ := h
    have : ks = [] := List.length_eq_zero_iff.1 h1.symm
    subst this
    have : vs = [] := List.length_eq_zero_iff.1 h2
    subst this
    exact ⟨none, rfl, .inl ⟨rfl, rfl, fun _ => rfl⟩⟩
  | e :: es, ks, vs, n, h, ha => by
    obtain ⟨k', ks', v, vs', rfl, rfl, h1, h2, h3⟩ := h.cons
    have hk' := ha k' (List.mem_cons_self ..)
    rw [Instr.findNow, ckV_rep hk' h1, ckV_same hd hc hk hk']
    by_cases hkk : k = k'
    · subst hkk
      simp only [decide_true]
      exact ⟨_, rfl, .hit h2⟩
    · simp only [hkk, decide_false]
      obtain ⟨r, hr, hf⟩ := findNow_ok hd hc hk es ks' vs' (n + 1) h3 (fun q hq => ha q (List.mem_cons_of_mem _ hq))
      exact ⟨r, hr, .miss (fun e => hkk e.symm) hf⟩

theorem eqA_ck : ∀ {cs : List CK} {xs ys : List AV} {K : Bool → Prop}, cksV cs xs = true → cksV cs ys = true → K (decide (xs = ys)) → eqA cs xs ys K
  | [], [], [], K, _, _, h => by simpa [eqA] using h
  | [], _ :: _, _, _, h, _, _ => by cases h
  | [], [], _ :: _, _, _, h, _ => by cases h
  | _ :: _, [], _, _, h, _, _ => by cases h
  | _ :: _, _ :: _, [], _, _, h, _ => by cases h
  | c :: cs, x :: xs, y :: ys, K, h, h', hK => by
    simp only [cksV, Bool.and_eq_true] at h h'
    obtain ⟨hx, hxs⟩ := h
    obtain ⟨hy, hys⟩ := h'
    have key : ∀ b : Bool, b = decide (x = y) → eqA cs xs ys (kAnd b K) := fun b hb => by
      refine eqA_ck hxs hys ?_
      unfold kAnd
      have : (b && decide (xs = ys)) = decide (x :: xs = y :: ys) := by
        subst hb
        by_cases h1 : x = y <;> by_cases h2 : xs = ys <;> simp [h1, h2]
      rw [this]
      exact hK
    cases c <;> cases x <;> simp only [ckV, Bool.false_eq_true] at hx <;> cases y <;> simp only [ckV, Bool.false_eq_true] at hy
    · simp at hx hy
      subst hx hy
      exact ⟨rfl, rfl, key _ (by simp)⟩
    · rename_i a b
      exact key _ (by cases a <;> cases b <;> simp)
    · exact key _ (by simp)

theorem cksV_all {cs : List CK} {xs : List AV} (h : cksV cs xs = true) : cs.length = xs.length := by
  induction cs generalizing xs with
  | nil => cases xs <;> simp_all [cksV]
  | cons c cs ih =>
    cases xs with
    | nil => cases h
    | cons x xs => simp only [cksV, Bool.and_eq_true] at h; simp [ih h.2]

theorem cksV_repk : ∀ {cs : List CK} {xs : List AV}, cksV cs xs = true → ∀ (i : Nat) (c : AV) (v : Value), xs[i]? = some c → (xs.map kval1)[i]? = some v → RepA G w c v
  | [], [], _, i, c, v, hc, _ => by simp at hc
  | [], _ :: _, h, _, _, _, _, _ => by cases h
  | _ :: _, [], h, _, _, _, _, _ => by cases h
  | k :: ks, x :: xs, h, i, c, v, hc, hv => by
    simp only [cksV, Bool.and_eq_true] at h
    cases i with
    | zero =>
      simp at hc hv
      subst hc hv
      obtain ⟨h, _⟩ := h
      cases k <;> cases x <;> simp only [ckV, Bool.false_eq_true] at h
      · exact .int _ _
      · exact .bool _
      · exact .str _
    | succ i => exact cksV_repk h.2 i c v (by simpa using hc) (by simpa using hv)

theorem equal_st {t : Nat} {cs : List CK} {xs ys : List AV} (hst : stA P t = some cs) (hx : cksV cs xs = true) (hy : cksV cs ys = true) :
    (Op.equal t (.agg (xs.map kval1).toArray) (.agg (ys.map kval1).toArray)).run P w = .ok (decide (xs = ys)) w := by
  unfold stA at hst
  split at hst
  · rename_i fs hu
    split at hst
    · rename_i hc
      have hfo : P.fieldsOf t = fs := by simp [Program.fieldsOf, hu]
      have g : Gh := gh0 fun _ _ => False
      obtain ⟨r, hr, hK⟩ := cksOf_run (P := P) (G := g) (w := w) 9998 fs.toList 0 cs xs ys (xs.map kval1) (ys.map kval1) (fun r => r = decide (xs = ys)) hst (eqA_ck hx hy rfl)
        (fun i c v h1 h2 => cksV_repk hx i c v h1 (by simpa using h2)) (fun i c v h1 h2 => cksV_repk hy i c v h1 (by simpa using h2)) (by simp) (by simp)
      rw [← hK]
      show (Op.equalIn 10000 t _ _).run P w = _
      rw [run_equalIn_struct w 9999 t _ _ (by rw [hfo]; exact hu) hc.1, hfo]
      exact hr
    · cases hst
  · cases hst

theorem findAsking_ok {t : Nat} {cs : List CK} {xs : List AV} (hst : stA P t = some cs) (hx : cksV cs xs = true) : ∀ (es : List MapEntry) (ks vs : List AV) (n : Nat), EntsAt G w ks vs es → (∀ k' ∈ ks, ∃ ys, k' = .agg ys ∧ cksV cs ys = true) →
    ∃ r, (Instr.findAsking t (.agg (xs.map kval1).toArray) es n).run P w = .ok r w ∧ FindAt G w ks vs (.agg xs) n r
  | [], ks, vs, n, h, _ => by
    obtain ⟨h1, h2, _⟩ := h
    have : ks = [] := List.length_eq_zero_iff.1 h1.symm
    subst this
    have : vs = [] := List.length_eq_zero_iff.1 h2
    subst this
    exact ⟨none, by simp [Instr.findAsking], .inl ⟨rfl, rfl, fun _ => rfl⟩⟩
  | e :: es, ks, vs, n, h, ha => by
    obtain ⟨k', ks', v, vs', rfl, rfl, h1, h2, h3⟩ := h.cons
    obtain ⟨ys, rfl, hy⟩ := ha k' (List.mem_cons_self ..)
    have he : e.key = .agg (ys.map kval1).toArray := by
      generalize hv : e.key = q at h1
      cases h1 with
      | agg _ us l1 _ l2 => rw [cksV_rep hy l1 l2]
    rw [Instr.findAsking, he, Sem.run_bind, equal_st hst hx hy, Result.andThen_ok]
    by_cases hkk : xs = ys
    · subst hkk
      simp only [decide_true, if_true, Sem.run_pure]
      exact ⟨_, rfl, .hit h2⟩
    · simp only [hkk, decide_false, Bool.false_eq_true, if_false]
      obtain ⟨r, hr, hf⟩ := findAsking_ok hst hx es ks' vs' (n + 1) h3 (fun q hq => ha q (List.mem_cons_of_mem _ hq))
      exact ⟨r, hr, .miss (fun e => hkk (by cases e; rfl)) hf⟩

theorem isKey_of {t : Nat} {c : CK} {d : TypeDesc} {k : AV} (hd : P.underlying t = some d) (hc : ckOf P t = some c) (h : ckV c k = true) : MapKept.IsKey d (kval1 k) := by
  unfold ckOf at hc
  rw [hd] at hc
  cases c <;> cases k <;> simp only [ckV, Bool.false_eq_true] at h <;> cases d <;> simp at hc <;> simp [MapKept.IsKey, kval1]
  simp at h
  rw [h, hc]

theorem ckOf_under {t : Nat} {c : CK} (hc : ckOf P t = some c) : ∃ d, P.underlying t = some d := by
  unfold ckOf at hc
  split at hc <;> first | exact ⟨_, by assumption⟩ | cases hc

theorem checkFields {n : Nat} {em : Bool} {xs : List AV} {cs0 : List CK} (h0 : cksV cs0 xs = true) : ∀ (fs : List Field) (m : Nat) (cs : List CK), cksOf P m fs = some cs → cs0.drop m = cs →
    (forIn fs PUnit.unit (fun f (_ : PUnit) => if f.name ≠ "_" then do
        let v ← part f.type (xs.map kval1).toArray f.offset
        Instr.checkKey em (n + 1) f.type v
        pure (ForInStep.yield PUnit.unit)
      else pure (ForInStep.yield PUnit.unit)) : Sem PUnit).run P w = .ok PUnit.unit w
  | [], m, cs, _, _ => by simp
  | f :: fs, m, cs, hk, hd => by
    unfold cksOf at hk
    split at hk
    · rename_i hf
      split at hk
      · rename_i k hck
        split at hk
        · rename_i ks' hks
          cases hk
          have hm : m < cs0.length := by
            rcases Nat.lt_or_ge m cs0.length with h | h
            · exact h
            · rw [List.drop_eq_nil_of_le h] at hd; cases hd
          have hx : m < xs.length := by rw [← cksV_all h0]; exact hm
          have hkm : cs0[m]? = some k := by
            have := congrArg (fun l => l[0]?) hd
            simpa using this
          have hv : ∀ {cs : List CK} {xs : List AV}, cksV cs xs = true → ∀ (i : Nat) (c : CK) (x : AV), cs[i]? = some c → xs[i]? = some x → ckV c x = true := by
            intro cs
            induction cs with
            | nil => intro xs h i c x hc; simp at hc
            | cons c0 cs ih =>
              intro xs h i c x hc hx
              cases xs with
              | nil => cases h
              | cons x0 xs =>
                simp only [cksV, Bool.and_eq_true] at h
                cases i with
                | zero => simp at hc hx; subst hc hx; exact h.1
                | succ i => exact ih h.2 i c x (by simpa using hc) (by simpa using hx)
          have hxm := List.getElem?_eq_getElem hx
          have hck2 := hv h0 m k _ hkm hxm
          obtain ⟨d, hud⟩ := ckOf_under hck
          have p1 : (part f.type (xs.map kval1).toArray f.offset).run P w = .ok (kval1 xs[m]) w := by
            rw [hf.1]
            exact part_one hck _ m _ (by rw [List.getElem?_map, hxm]; rfl)
          have p2 := MapKept.run_checkKey (w := w) hud (isKey_of hud hck hck2) em n
          simp only [List.forIn_cons, Sem.run_bind, hf.2, ne_eq, not_false_eq_true, if_true, p1, p2, Result.andThen_ok, Sem.run_pure]
          exact checkFields h0 fs (m + 1) ks' hks (by rw [← List.drop_drop, hd]; rfl)
        · cases hk
      · cases hk
    · cases hk

theorem checkKey_ok {t : Nat} {k : AV} (h : keyA P t k = true) (em : Bool) : (Instr.checkKey em 10000 t (kval k)).run P w = .ok () w := by
  cases k with
  | agg xs =>
    simp only [keyA] at h
    split at h
    · rename_i cs hst
      unfold stA at hst
      split at hst
      · rename_i fs hu
        split at hst
        · rename_i hc
          show (Instr.checkKey em (9999 + 1) t (.agg (xs.map kval1).toArray)).run P w = _
          rw [Instr.checkKey]
          simp only [Sem.run_bind, run_underlying hu, Result.andThen_ok]
          rw [← Array.forIn_toList]
          have := checkFields (P := P) (w := w) (n := 9998) (em := em) h fs.toList 0 cs hst rfl
          rw [this]
          rfl
        · cases hst
      · cases hst
    · cases h
  | _ =>
    simp only [keyA] at h
    split at h
    · rename_i c hc
      obtain ⟨d, hud⟩ := ckOf_under hc
      exact MapKept.run_checkKey (w := w) hud (isKey_of hud hc h) em 9999
    · cases h

theorem findKey_ok {t : Nat} {k : AV} (h : keyA P t k = true) {es : List MapEntry} {ks vs : List AV} (hE : EntsAt G w ks vs es) (hks : ks.all (keyA P t) = true) :
    ∃ r, (Instr.findKey t (kval k) es).run P w = .ok r w ∧ FindAt G w ks vs k 0 r := by
  have hall := List.all_eq_true.1 hks
  cases hst : stA P t with
  | some cs =>
    have hsu : ∃ fs, P.underlying t = some (.struct fs) := by
      unfold stA at hst
      split at hst
      · exact ⟨_, by assumption⟩
      · cases hst
    obtain ⟨fs, hu⟩ := hsu
    have hck : ckOf P t = none := by unfold ckOf; rw [hu]
    have agg : ∀ q, keyA P t q = true → ∃ ys, q = .agg ys ∧ cksV cs ys = true := by
      intro q hq
      cases q with
      | agg ys => simp only [keyA, hst] at hq; exact ⟨ys, rfl, hq⟩
      | _ => simp [keyA, hck] at hq
    obtain ⟨xs, rfl, hx⟩ := agg k h
    obtain ⟨r, hr, hf⟩ := findAsking_ok (P := P) hst hx es ks vs 0 hE (fun q hq => agg q (hall q hq))
    refine ⟨r, ?_, hf⟩
    simp only [kval, Instr.findKey, Sem.run_bind, run_underlying hu, Result.andThen_ok]
    cases es with
    | nil =>
      simp only [Instr.findNow]
      simp only [Instr.findAsking] at hr
      exact hr
    | cons e es =>
      simp only [Instr.findNow, Instr.sameNow]
      exact hr
  | none =>
    cases hc : ckOf P t with
    | none => cases k <;> simp [keyA, hst, hc] at h
    | some c =>
      obtain ⟨d, hud⟩ := ckOf_under hc
      have one : ∀ q, keyA P t q = true → ckV c q = true := by
        intro q hq
        cases q <;> simp_all [keyA]
      obtain ⟨r, hr, hf⟩ := findNow_ok (G := G) (w := w) hud hc (one k h) es ks vs 0 hE (fun q hq => one q (hall q hq))
      refine ⟨r, ?_, hf⟩
      have hkv : kval k = kval1 k := by cases k <;> first | rfl | (simp [keyA, hst] at h)
      rw [hkv]
      exact MapKept.run_findKey hud hr

theorem sameBits_k {c : CK} {k : AV} (h : ckV c k = true) (n : Nat) : Instr.sameBits n (kval1 k) (kval1 k) = true := by
  cases c <;> cases k <;> simp only [ckV, Bool.false_eq_true] at h <;> cases n <;> simp [kval1, Instr.sameBits, MapKept.bytes_beq]

theorem stays_ok {t : Nat} {k : AV} (h : keyA P t k = true) : (Instr.keyThatStays (kval k) (kval k)).run P w = .ok (kval k) w := by
  have hs : Instr.sameBits 10000 (kval k) (kval k) = true := by
    cases k with
    | agg xs =>
      simp only [keyA] at h
      split at h
      · rename_i cs hst
        show Instr.sameBits (9999 + 1) (.agg _) (.agg _) = true
        simp only [Instr.sameBits, beq_self_eq_true, Bool.true_and, List.all_eq_true]
        intro p hp
        obtain ⟨i, hi, e⟩ := List.getElem_of_mem hp
        rw [List.getElem_zip] at e
        rw [← e]
        have aux : ∀ {cs : List CK} {xs : List AV}, cksV cs xs = true → ∀ x ∈ xs, ∃ c, ckV c x = true := by
          intro cs
          induction cs with
          | nil => intro xs h x hx; cases xs with
            | nil => cases hx
            | cons _ _ => cases h
          | cons c0 cs ih =>
            intro xs h x hx
            cases xs with
            | nil => cases h
            | cons x0 xs =>
              simp only [cksV, Bool.and_eq_true] at h
              rcases List.mem_cons.1 hx with rfl | hx
              · exact ⟨_, h.1⟩
              · exact ih h.2 x hx
        simp only [List.getElem_map]
        obtain ⟨c, hc⟩ := aux h _ (List.getElem_mem (by simpa using hi))
        exact sameBits_k hc _
      · cases h
    | _ =>
      simp only [keyA] at h
      split at h
      · exact sameBits_k h _
      · cases h
  simp [Instr.keyThatStays, hs]
end

/-- The zero value of a map's elements. -/
def zvA (P : Program) (t : Nat) : Option AV := match P.info? t with
  | some i => (match i.zero, zeroA P t with
    | some (.agg _), some zs => some (.agg zs)
    | some v, some [z] => if oneCell v = true then some z else none
    | _, _ => none)
  | none => none

theorem zvA_ok {P : Program} {G : Gh} {w : World} {t : Nat} {z : AV} (h : zvA P t = some z) : ∃ v, (zeroValue t).run P w = .ok v w ∧ RepA G w z v := by
  unfold zvA at h
  split at h
  · rename_i i hi
    split at h
    · rename_i cs zs hz0 hz
      cases h
      obtain ⟨i', v, h1, h2, h3, h4⟩ := zeroA_of hz
      rw [hi] at h1
      cases h1
      rw [hz0] at h2
      cases h2
      refine ⟨.agg cs, by simp [zeroValue, typeInfo, hi, hz0], ?_⟩
      have := (h4 G w).toAgg
      simpa [Value.cells] using this
    · rename_i v z0 _ hz0 hz
      split at h
      · rename_i ho
        cases h
        obtain ⟨i', v', h1, h2, h3, h4⟩ := zeroA_of hz
        rw [hi] at h1
        cases h1
        rw [hz0] at h2
        cases h2
        refine ⟨v, by simp [zeroValue, typeInfo, hi, hz0], ?_⟩
        have hc : v.cells.toList = [v] := by cases v <;> first | rfl | cases ho
        refine (h4 G w).rep 0 z v rfl ?_
        rw [hc]
        rfl
      · cases h
    · cases h
  · cases h

/-- A map type's keys, and what is read where there is none. -/
def mapA (P : Program) (t : Nat) : Option (Nat × AV) := match P.underlying t with
  | some (.map k e) => match zvA P e with
    | some z => some (k, z)
    | none => none
  | _ => none

theorem mapA_of {P : Program} {t k : Nat} {z : AV} (h : mapA P t = some (k, z)) : ∃ e, P.underlying t = some (.map k e) ∧ zvA P e = some z := by
  unfold mapA at h
  split at h
  · rename_i k' e hu
    split at h
    · rename_i z' hz
      cases h
      exact ⟨e, hu, hz⟩
    · cases h
  · cases h

def okV (ok : Bool) (v : AV) (b : Bool) : AV := match ok with
  | true => .tup [v, .bool b]
  | false => v
def mgK (ok : Bool) (z : AV) (K : AV → Prop) (r : Option AV) : Prop := match r with
  | some v => K (okV ok v true)
  | none => K (okV ok z false)
def lookC (P : Program) (t : Nat) (cs : List AV) (k : AV) (ok : Bool) (K : AV → Prop) : Prop := match cs with
  | [.mapc ks vs] => match mapA P t with
    | some (kt, z) => keyA P kt k = true ∧ ks.all (keyA P kt) = true ∧ mgK ok z K (mget ks vs k)
    | none => False
  | _ => False
def exLookup (P : Program) (m : AH) (t : Nat) (x k : AV) (ok : Bool) (K : AV → Prop) : Prop := match x with
  | .mref l => match m.cells l with
    | some cs => lookC P t cs k ok K
    | none => False
  | _ => False

theorem mref_at {E : Env} {G : Gh} {m : AH} {w : World} (hi : Inv E G m w) {l : Loc} {cs : List AV} {b : Nat} (hb : G.bx l = some (b, mapMark)) (hc : m.cells l = some cs) :
    MapAt E G w b cs ∧ G.who b = some (.inl l) ∧ (E.may b ∨ E.w0.heap.size ≤ b) ∧ (∀ i, ¬ G.st b i) := by
  obtain ⟨b', o', h1, h2, h3, h4, _, h6⟩ := hi.box l cs hc
  rw [hb] at h1
  cases h1
  exact ⟨h6 rfl, h2, h3, h4⟩

theorem exLookup_ok {P : Program} {E : Env} {G : Gh} {m : AH} {w : World} {t : Nat} {x k : AV} {ok : Bool} {xv kv : Value} {K : AV → Prop} (h : exLookup P m t x k ok K) (hi : Inv E G m w) (hx : RepA G w x xv) (hk : RepA G w k kv) :
    ∃ v u, (Instr.lookup t xv kv ok).run P w = .ok u w ∧ RepA G w v u ∧ K v := by
  unfold exLookup at h
  split at h
  · rename_i l
    split at h
    · rename_i cs hcs
      cases hx with
      | mref _ b hb =>
        obtain ⟨⟨ks, vs, es, cl, rfl, hes, hE⟩ | ⟨_, _, _, _, _, rfl, _⟩, _⟩ := mref_at hi hb hcs
        rotate_left
        · exact h.elim
        unfold lookC at h
        simp only at h
        split at h
        · rename_i kt z hm
          obtain ⟨e, hu, hz⟩ := mapA_of hm
          obtain ⟨h1, h2, h3⟩ := h
          rw [keyA_rep h1 hk]
          obtain ⟨r, hr, hf⟩ := findKey_ok (P := P) h1 hE h2
          have hck := fun em => checkKey_ok (P := P) (w := w) h1 em
          obtain ⟨zv, hzv, hzr⟩ := zvA_ok (P := P) (G := G) (w := w) hz
          rcases hf with ⟨rfl, g2, _⟩ | ⟨i, xx, v, rfl, _, _, g4, g5, _⟩
          · rw [g2] at h3
            refine ⟨okV ok z false, if ok then .tuple #[zv, .bool false] else zv, ?_, ?_, h3⟩
            · simp only [Instr.lookup, Sem.run_bind, run_underlying hu, Result.andThen_ok, MapKept.run_getObj_map hes, Sem.run_pure, hck, hr, hzv]
            · cases ok with
              | false => exact hzr
              | true => exact .tup [z, .bool false] [zv, .bool false] rfl (fun i c v hc hv => by
                  match i, hc, hv with
                  | 0, hc, hv => cases hc; cases hv; exact hzr
                  | 1, hc, hv => cases hc; cases hv; exact .bool _)
          · rw [g4] at h3
            refine ⟨okV ok v true, if ok then .tuple #[xx, .bool true] else xx, ?_, ?_, h3⟩
            · simp only [Instr.lookup, Sem.run_bind, run_underlying hu, Result.andThen_ok, MapKept.run_getObj_map hes, Sem.run_pure, hck, hr]
            · cases ok with
              | false => exact g5
              | true => exact .tup [v, .bool true] [xx, .bool true] rfl (fun i c v hc hv => by
                  match i, hc, hv with
                  | 0, hc, hv => cases hc; cases hv; exact g5
                  | 1, hc, hv => cases hc; cases hv; exact .bool _)
        · exact h.elim
    · exact h.elim
  · exact h.elim

def upC (P : Program) (t : Nat) (m : AH) (l : Loc) (cs : List AV) (k v : AV) (K : AH → Prop) : Prop := match cs with
  | [.mapc ks vs] => match mapA P t with
    | some (kt, _) => keyA P kt k = true ∧ ks.all (keyA P kt) = true ∧ K (m.setCells l [mapP (mset ks vs k v)])
    | none => False
  | _ => False
def exUpdate (P : Program) (m : AH) (t : Nat) (x k v : AV) (K : AH → Prop) : Prop := match x with
  | .mref l => match m.cells l with
    | some cs => upC P t m l cs k v K
    | none => False
  | _ => False

/-- Another content of a map. -/
theorem Inv.setMap {E : Env} {G : Gh} {m : AH} {w : World} (h : Inv E G m w) {l : Loc} {cs ks vs : List AV} {b cl cl' : Nat} {es es' : Array MapEntry} (hc : m.cells l = some cs) (hb : G.bx l = some (b, mapMark)) (hes : w.heap[b]? = some (.map es cl))
    (hE : EntsAt G w ks vs es'.toList) :
    Ext G w G { w with heap := w.heap.setIfInBounds b (.map es' cl') } ∧ Inv E G (m.setCells l [.mapc ks vs]) { w with heap := w.heap.setIfInBounds b (.map es' cl') } := by
  obtain ⟨_, hwho, hmay, hst⟩ := mref_at h hb hc
  have hlt : b < w.heap.size := (Array.getElem?_eq_some_iff.1 hes).1
  have hne : ∀ k, k ≠ b → ({ w with heap := w.heap.setIfInBounds b (.map es' cl') } : World).heap[k]? = w.heap[k]? := fun k hk => by simp [Ne.symm hk]
  have hx : Ext G w G { w with heap := w.heap.setIfInBounds b (.map es' cl') } := by
    refine ⟨fun _ _ x => x, fun b2 o2 hs => ?_, fun _ _ x => x, Nat.le_refl _, fun _ _ _ x => x⟩
    exact cell_of_heap (hne b2 (fun e => hst o2 (e ▸ hs))) o2
  refine ⟨hx, ?_⟩
  refine h.but (N := b) hx ⟨rfl, rfl, rfl, by simp, hne, fun _ _ => rfl, fun _ _ _ => Iff.rfl⟩ hmay (fun l2 cs2 hc2 => ?_) (fun t g hg => ?_) (fun i hi => .inl ⟨?_, rfl, by rw [hwho]; simp⟩) (fun i hi => ?_) ?_ (by simpa using hlt)
  · rw [setCells_cells _ hc] at hc2
    by_cases hl2 : l = l2
    · subst hl2
      rw [if_pos rfl] at hc2
      cases hc2
      refine .inr ⟨b, mapMark, hb, hwho, hmay, hst, fun e => absurd rfl e, fun _ => .inl ⟨ks, vs, es', cl', rfl, by simp [hlt], hE.ext hx⟩⟩
    · rw [if_neg hl2] at hc2
      exact .inl ⟨hc2, by rw [hwho]; intro e; cases e; exact hl2 rfl⟩
  · refine h.gen t g ?_
    have e := setCells_gen [AV.mapc ks vs] hc t
    rcases hg with hg | ⟨g', cs', hg, hlt⟩
    · rw [hg] at e
      cases hh : hget m.h t with
      | none => exact .inl rfl
      | some y => rw [hh] at e; cases e
    · rw [hg] at e
      cases hh : hget m.h t with
      | none => rw [hh] at e; cases e
      | some y =>
        obtain ⟨g1, cs1⟩ := y
        rw [hh] at e
        simp only [Option.map_some, Option.some.injEq] at e
        subst e
        exact .inr ⟨_, cs1, rfl, hlt⟩
  · cases l <;> exact hi
  · have : m.lv i := by cases l <;> exact hi
    have := h.lt i this
    cases l <;> exact this
  · have := h.nx
    cases l <;> exact this

theorem exUpdate_ok {P : Program} {E : Env} {G : Gh} {m : AH} {w : World} {t : Nat} {x k v : AV} {xv kv vv : Value} {K : AH → Prop} (h : exUpdate P m t x k v K) (hi : Inv E G m w) (hx : RepA G w x xv) (hk : RepA G w k kv) (hv : RepA G w v vv) :
    ∃ m' w', (Instr.mapUpdate t xv kv vv).run P w = .ok () w' ∧ Ext G w G w' ∧ Inv E G m' w' ∧ K m' := by
  unfold exUpdate at h
  split at h
  · rename_i l
    split at h
    · rename_i cs hcs
      cases hx with
      | mref _ b hb =>
        obtain ⟨⟨ks, vs, es, cl, rfl, hes, hE⟩ | ⟨_, _, _, _, _, rfl, _⟩, _⟩ := mref_at hi hb hcs
        rotate_left
        · exact h.elim
        unfold upC at h
        simp only at h
        split at h
        · rename_i kt z hm
          obtain ⟨e, hu, hz⟩ := mapA_of hm
          obtain ⟨h1, h2, h3⟩ := h
          have ek := keyA_rep h1 hk
          subst ek
          obtain ⟨r, hr, hf⟩ := findKey_ok (P := P) h1 hE h2
          have hck := fun em => checkKey_ok (P := P) (w := w) h1 em
          rcases hf with ⟨rfl, _, g2⟩ | ⟨i, xx, v0, rfl, g1, g2, _, g5, g6⟩
          · rw [g2] at h3
            have hE2 : EntsAt G w (ks ++ [k]) (vs ++ [v]) (es.push { key := kval k, val := vv, born := cl }).toList := by
              obtain ⟨e1, e2, e3⟩ := hE
              refine ⟨by simpa using e1, by simpa using e2, fun i k' v' e' a b c => ?_⟩
              simp only [Array.toList_push] at c
              by_cases hi : i < ks.length
              · rw [List.getElem?_append_left hi] at a
                rw [List.getElem?_append_left (by omega)] at b
                rw [List.getElem?_append_left (by omega)] at c
                exact e3 i k' v' e' a b c
              · rw [List.getElem?_append_right (by omega)] at a b c
                rw [e1] at c
                rw [e2] at b
                cases hd : i - ks.length with
                | zero =>
                  rw [hd] at a b c
                  cases a; cases b; cases c
                  exact ⟨hk, hv⟩
                | succ j => rw [hd] at a; cases a
            obtain ⟨f1, f2⟩ := hi.setMap (cl' := cl + 1) hcs hb hes hE2
            refine ⟨_, _, ?_, f1, f2, h3⟩
            simp only [Instr.mapUpdate, Sem.run_bind, run_underlying hu, Result.andThen_ok, MapKept.run_getObj_map hes, hck, hr, MapKept.run_setObj_map _ hes]
          · rw [Nat.zero_add] at hr
            rw [g6] at h3
            have hil : i < es.toList.length := by rw [hE.1]; exact (List.getElem?_eq_some_iff.1 g1).1
            have hei : es[i]? = some es[i] := Array.getElem?_eq_getElem (by simpa using hil)
            have hke : (es[i]'(by simpa using hil)).key = kval k := keyA_rep h1 (hE.2.2 i k v0 _ g1 g2 (by simp)).1
            have hE2 : EntsAt G w ks (vs.set i v) (es.modify i fun e => { e with key := kval k, val := vv }).toList := by
              obtain ⟨e1, e2, e3⟩ := hE
              refine ⟨by simpa using e1, by simpa using e2, fun j k' v' e' a b c => ?_⟩
              simp only [Array.getElem?_toList, Array.getElem?_modify] at c
              by_cases hij : i = j
              · subst hij
                rw [g1] at a
                cases a
                rw [hei] at c
                simp only [if_true, Option.map_some, Option.some.injEq] at c
                rw [← c]
                rw [List.getElem?_set_self (by rw [e2]; exact (List.getElem?_eq_some_iff.1 g1).1)] at b
                cases b
                exact ⟨hk, hv⟩
              · rw [if_neg hij] at c
                rw [List.getElem?_set_ne hij] at b
                exact e3 j k' v' e' a b (by simpa using c)
            obtain ⟨f1, f2⟩ := hi.setMap (cl' := cl) hcs hb hes hE2
            refine ⟨_, _, ?_, f1, f2, h3⟩
            have hst := stays_ok (P := P) (w := w) h1
            simp only [Instr.mapUpdate, Sem.run_bind, run_underlying hu, Result.andThen_ok, MapKept.run_getObj_map hes, hck, hr, hei, Option.map_some, Option.getD_some, hke, hst, MapKept.run_setObj_map _ hes]
        · exact h.elim
    · exact h.elim
  · exact h.elim

/-- A new map. -/
theorem Inv.newMap {E : Env} {G : Gh} {m : AH} {w : World} (h : Inv E G m w) (t : Nat) :
    ∃ G', Ext G w G' (w.alloc (.map #[] 0)) ∧ Inv E G' (m.newBox t [.mapc [] []]) (w.alloc (.map #[] 0)) ∧ G'.bx (.own t (gnext m t)) = some (w.heap.size, mapMark) := by
  let N := w.heap.size
  let g := gnext m t
  have hbx : G.bx (.own t g) = none := by
    apply h.gen
    show hget m.h t = none ∨ _
    simp only [g, gnext]
    cases hg : hget m.h t with
    | none => exact .inl rfl
    | some x => obtain ⟨g', cs'⟩ := x; exact .inr ⟨g', cs', rfl, by simp⟩
  have hx : Ext G w { G with bx := updL G.bx (.own t g) (some (N, mapMark)), who := updN G.who N (some (.inl (.own t g))) } (w.alloc (.map #[] 0)) := by
    refine ⟨fun b o hs => hs, fun b o hs => World.cell?_alloc_lt w _ _ (st_lt h hs), fun l y hy => ?_, Nat.le_refl _, fun i x _ hx => hx⟩
    show updL G.bx (.own t g) (some (N, mapMark)) l = some y
    have hne : l ≠ .own t g := fun e => by subst e; rw [hbx] at hy; cases hy
    rw [updL_ne _ _ hne]; exact hy
  refine ⟨_, hx, ?_, by simp [updL, N, g]⟩
  refine h.but (N := N) hx ⟨rfl, rfl, rfl, by simp, fun b hb => ?_, fun b hb => updN_ne _ _ hb, fun b hb j => Iff.rfl⟩ (.inr h.kept.size) (fun l cs' hc => ?_) (fun t' g' hg => ?_) (fun i hi => .inl ⟨hi, rfl, ?_⟩) h.lt h.nx (by simp [N])
  · show (w.heap.push _)[b]? = _
    rw [Array.getElem?_push, if_neg hb]
  · by_cases hl' : l = .own t g
    · subst hl'
      right
      have : m.newBox t [.mapc [] []] = { m with h := hset m.h t g [.mapc [] []] } := rfl
      rw [this] at hc
      simp only [AH.cells, hget_set_self, if_true] at hc
      cases hc
      refine ⟨N, mapMark, updL_self _ _ _, updN_self _ _ _, .inr h.kept.size, fun i hs => absurd (st_lt h hs) (by simp [N]), fun e => absurd rfl e, fun _ => .inl ⟨[], [], #[], 0, rfl, ?_, rfl, rfl, by simp⟩⟩
      show (w.heap.push _)[N]? = _
      simp [N]
    · left
      refine ⟨?_, by rw [(h.fresh N (Nat.le_refl _)).1]; simp⟩
      cases l with
      | out k => exact hc
      | own t' g' =>
        simp only [AH.newBox, AH.cells] at hc ⊢
        by_cases ht : t = t'
        · subst ht
          rw [hget_set_self] at hc
          have : ¬ g' = gnext m t := fun e => hl' (by rw [e])
          simp [this] at hc
        · rw [hget_set_ne _ _ _ ht] at hc
          exact hc
  · show updL G.bx (.own t g) (some (N, mapMark)) (.own t' g') = none
    by_cases ht : t = t'
    · subst ht
      simp only [AH.newBox, hget_set_self] at hg
      rcases hg with hg | ⟨g2, cs2, hg, hlt⟩
      · cases hg
      · cases hg
        rw [updL_ne _ _ (by intro e; cases e; exact absurd hlt (Nat.lt_irrefl _))]
        apply h.gen
        simp only [gnext] at hlt
        cases hh : hget m.h t with
        | none => exact .inl rfl
        | some x => obtain ⟨g3, cs3⟩ := x; rw [hh] at hlt; exact .inr ⟨g3, cs3, rfl, by simp at hlt; omega⟩
    · rw [updL_ne _ _ (by intro e; cases e; exact ht rfl)]
      apply h.gen
      simpa only [AH.newBox, hget_set_ne _ _ _ ht] using hg
  · rw [(h.fresh N (Nat.le_refl _)).1]; simp

/-! Calls that share the caller's memory. -/
theorem MapAt.env {E E' : Env} {G : Gh} {w : World} {b : Nat} {cs : List AV} (h : MapAt E G w b cs) (up : ∀ b, E.may b ∨ E.w0.heap.size ≤ b → E'.may b ∨ E'.w0.heap.size ≤ b) : MapAt E' G w b cs := by
  rcases h with h | ⟨T, e, s, p, v, g1, g2, g3, g4⟩
  · exact .inl h
  · refine .inr ⟨T, e, s, p, v, g1, g2, g3, ?_⟩
    rcases g4 with g4 | ⟨g, cap, cur, fz, e1, e2, e3, e4, e5, e6, e7⟩
    · exact .inl g4
    · exact .inr ⟨g, cap, cur, fz, e1, e2, e3, e4, e5, up g e6, e7⟩

/-- Is this the library's builder of strings, and of what type is its buffer's element? -/
def bldF (P : Program) (fs : List Field) : Option Nat := match fs with
  | [a, b] => match a.name == "addr" && a.pkgPath == "strings" && b.name == "buf" with
    | true => match P.underlying b.type with
      | some (.slice e) => some e
      | _ => none
    | false => none
  | _ => none
def bldZ : List Value → Bool
  | [.pointer none, .slice none 0 0] => true
  | _ => false
def bldI (P : Program) (i : TypeInfo) (t : Nat) : Option Nat := match i.zero, P.underlying t with
  | some v, some (.struct fs) => match bldZ v.cells.toList with
    | true => bldF P fs.toList
    | false => none
  | _, _ => none
def bldT (P : Program) (t : Nat) : Option Nat := match P.info? t with
  | some i => bldI P i t
  | none => none

theorem bldT_of {P : Program} {t e : Nat} (h : bldT P t = some e) : ∃ i v, P.info? t = some i ∧ i.zero = some v ∧ v.cells = #[.pointer none, .slice none 0 0] := by
  unfold bldT at h
  split at h
  · rename_i i hi
    unfold bldI at h
    split at h
    · rename_i v fs hv hu
      split at h
      · rename_i hz
        refine ⟨i, v, hi, hv, ?_⟩
        unfold bldZ at hz
        split at hz
        · rename_i hl
          apply Array.ext'
          exact hl
        · cases hz
      · cases h
    · cases h
  · cases h

/-- A new builder. -/
theorem Inv.newBld {E : Env} {G : Gh} {m : AH} {w : World} (h : Inv E G m w) (t T e : Nat) :
    ∃ G', Ext G w G' (w.alloc (.cells #[.pointer none, .slice none 0 0] T)) ∧ Inv E G' (m.newBox t [.bld T e []]) (w.alloc (.cells #[.pointer none, .slice none 0 0] T)) ∧ G'.bx (.own t (gnext m t)) = some (w.heap.size, mapMark) := by
  let N := w.heap.size
  let g := gnext m t
  have hbx : G.bx (.own t g) = none := by
    apply h.gen
    show hget m.h t = none ∨ _
    simp only [g, gnext]
    cases hg : hget m.h t with
    | none => exact .inl rfl
    | some x => obtain ⟨g', cs'⟩ := x; exact .inr ⟨g', cs', rfl, by simp⟩
  have hx : Ext G w { G with bx := updL G.bx (.own t g) (some (N, mapMark)), who := updN G.who N (some (.inl (.own t g))) } (w.alloc (.cells #[.pointer none, .slice none 0 0] T)) := by
    refine ⟨fun b o hs => hs, fun b o hs => World.cell?_alloc_lt w _ _ (st_lt h hs), fun l y hy => ?_, Nat.le_refl _, fun i x _ hx => hx⟩
    show updL G.bx (.own t g) (some (N, mapMark)) l = some y
    have hne : l ≠ .own t g := fun e => by subst e; rw [hbx] at hy; cases hy
    rw [updL_ne _ _ hne]; exact hy
  refine ⟨_, hx, ?_, by simp [updL, N, g]⟩
  refine h.but (N := N) hx ⟨rfl, rfl, rfl, by simp, fun b hb => ?_, fun b hb => updN_ne _ _ hb, fun b hb j => Iff.rfl⟩ (.inr h.kept.size) (fun l cs' hc => ?_) (fun t' g' hg => ?_) (fun i hi => .inl ⟨hi, rfl, ?_⟩) h.lt h.nx (by simp [N])
  · show (w.heap.push _)[b]? = _
    rw [Array.getElem?_push, if_neg hb]
  · by_cases hl' : l = .own t g
    · subst hl'
      right
      have : m.newBox t [.bld T e []] = { m with h := hset m.h t g [.bld T e []] } := rfl
      rw [this] at hc
      simp only [AH.cells, hget_set_self, if_true] at hc
      cases hc
      refine ⟨N, mapMark, updL_self _ _ _, updN_self _ _ _, .inr h.kept.size, fun i hs => absurd (st_lt h hs) (by simp [N]), fun e => absurd rfl e, fun _ => .inr ⟨T, e, [], _, _, rfl, ?_, .inl rfl, .inl ⟨rfl, rfl⟩⟩⟩
      show (w.heap.push _)[N]? = _
      simp [N]
    · left
      refine ⟨?_, by rw [(h.fresh N (Nat.le_refl _)).1]; simp⟩
      cases l with
      | out k => exact hc
      | own t' g' =>
        simp only [AH.newBox, AH.cells] at hc ⊢
        by_cases ht : t = t'
        · subst ht
          rw [hget_set_self] at hc
          have : ¬ g' = gnext m t := fun e => hl' (by rw [e])
          simp [this] at hc
        · rw [hget_set_ne _ _ _ ht] at hc
          exact hc
  · show updL G.bx (.own t g) (some (N, mapMark)) (.own t' g') = none
    by_cases ht : t = t'
    · subst ht
      simp only [AH.newBox, hget_set_self] at hg
      rcases hg with hg | ⟨g2, cs2, hg, hlt⟩
      · cases hg
      · cases hg
        rw [updL_ne _ _ (by intro e; cases e; exact absurd hlt (Nat.lt_irrefl _))]
        apply h.gen
        simp only [gnext] at hlt
        cases hh : hget m.h t with
        | none => exact .inl rfl
        | some x => obtain ⟨g3, cs3⟩ := x; rw [hh] at hlt; exact .inr ⟨g3, cs3, rfl, by simp at hlt; omega⟩
    · rw [updL_ne _ _ (by intro e; cases e; exact ht rfl)]
      apply h.gen
      simpa only [AH.newBox, hget_set_ne _ _ _ ht] using hg
  · rw [(h.fresh N (Nat.le_refl _)).1]; simp

/-! Calls that share the caller's memory. -/
def shareE (E : Env) (G : Gh) (w : World) : Env := ⟨w, fun b => E.may b ∨ E.w0.heap.size ≤ b, G⟩

theorem Inv.share {E : Env} {G : Gh} {m : AH} {w : World} (h : Inv E G m w) : Inv (shareE E G w) G m w := by
  refine ⟨⟨rfl, rfl, rfl, Nat.le_refl _, fun _ _ _ => rfl⟩, fun l cs hc => ?_, h.gen, fun i hi => ?_, h.lt, h.nx, h.fresh, Ext.refl _ _, fun b o hs _ => .inl hs⟩
  · obtain ⟨b, o, h1, h2, h3, h4, h5, h6⟩ := h.box l cs hc
    exact ⟨b, o, h1, h2, .inl h3, h4, h5, fun h0 => (h6 h0).env (fun _ hb => .inl hb)⟩
  · rcases h.tok i hi with ht | ⟨b, o, n, c, z, cells, ty, t1, t2, t3, t4⟩
    · exact .inl ht
    · exact .inr ⟨b, o, n, c, z, cells, ty, t1, t2, .inl t3, t4⟩

theorem Inv.unshare {E : Env} {G G' : Gh} {m m' : AH} {w w' : World} (h : Inv E G m w) (hi : Inv (shareE E G w) G' m' w') : Ext G w G' w' ∧ Inv E G' m' w' := by
  refine ⟨hi.ext, ?_⟩
  have up : ∀ b, (shareE E G w).may b ∨ w.heap.size ≤ b → E.may b ∨ E.w0.heap.size ≤ b := fun b hb => by
    rcases hb with hb | hb
    · exact hb
    · exact .inr (Nat.le_trans h.kept.size hb)
  refine ⟨h.kept.heap hi.kept.os hi.kept.tape hi.kept.output hi.kept.size (fun b hb hm => hi.kept.block b (Nat.lt_of_lt_of_le hb h.kept.size) (fun hm' => ?_)), fun l cs hc => ?_, hi.gen, fun i hl => ?_, hi.lt, hi.nx, hi.fresh, h.ext.trans hi.ext, fun b o hs hb => ?_⟩
  · rcases hm' with h1 | h1
    · exact hm h1
    · omega
  · obtain ⟨b, o, h1, h2, h3, h4, h5, h6⟩ := hi.box l cs hc
    exact ⟨b, o, h1, h2, up b h3, h4, h5, fun h0 => (h6 h0).env up⟩
  · rcases hi.tok i hl with ht | ⟨b, o, n, c, z, cells, ty, t1, t2, t3, t4⟩
    · exact .inl ht
    · exact .inr ⟨b, o, n, c, z, cells, ty, t1, t2, up b t3, t4⟩
  · rcases hi.st1 b o hs (Nat.lt_of_lt_of_le hb h.kept.size) with h1 | h1
    · exact h.st1 b o h1 hb
    · rcases h1 with h2 | h2
      · exact .inr h2
      · omega

theorem TabsOk.share {P : Program} {E : Env} {G : Gh} {m : AH} {w : World} (hT : TabsOk P E) (h : Inv E G m w) : TabsOk P (shareE E G w) := fun w' k => by
  refine hT w' (h.kept.heap k.os k.tape k.output k.size (fun b hb hm => k.block b (Nat.lt_of_lt_of_le hb h.kept.size) (fun hm' => ?_)))
  rcases hm' with h1 | h1
  · exact hm h1
  · omega

/-- A call that works in the caller's own memory. -/
def inlK (P : Program) (k : Nat) (args : List AV) (σ : AS) (dst : Option Nat) (K : AS → Prop) : Prop :=
  ∃ R, QCall P k σ.m args R ∧ ∀ m' r, R m' r → K (AS.put ⟨σ.s, m'⟩ dst r)

theorem inlK_ok {P : Program} {E : Env} {k : Nat} {args : List AV} {σ : AS} {dst : Option Nat} {K : AS → Prop} {G : Gh} {w : World} {vs : List Value} (hT : TabsOk P E) (h : inlK P k args σ dst K) (hi : Inv E G σ.m w) (hr : RepArgs G w args vs) :
    Calls P k vs.toArray w fun e w' => ∃ v m2 r2 G2, e = .returned v ∧ Ext G w G2 w' ∧ Inv E G2 m2 w' ∧ RepA G2 w' r2 v ∧ K (AS.put ⟨σ.s, m2⟩ dst r2) := by
  obtain ⟨R, h1, h2⟩ := h
  unfold QCall at h1
  refine (h1 (shareE E G w) G w vs (hT.share hi) rfl rfl hi.share hr).mono ?_
  rintro e w' ⟨v, r, G', m', rfl, g1, g2, g3⟩
  obtain ⟨e1, e2⟩ := hi.unshare g1
  exact ⟨v, m', r, G', rfl, e1, e2, g2, h2 m' r g3⟩

attribute [irreducible] inlK

end Go.AB
