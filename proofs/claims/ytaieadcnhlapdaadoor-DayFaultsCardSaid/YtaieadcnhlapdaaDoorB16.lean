/- Regions that draw their order: operations that write nothing, once in the order of the text. -/
import Derived.Test.YtaieadcnhlapdaaDoorB15
namespace Go.AB

def quietB : Builtin → Bool
  | .len => true
  | .min => true
  | .max => true
  | _ => false

def quietN (P : Program) (k : Nat) (as : List AV) (σ : AS) (dst : Option Nat) (K : AS → Prop) : Prop := ∃ r, PCall P k as (RV r) ∧ (∀ n, shV n r = r) ∧ kPut σ dst K r
def exCallD (P : Program) (c : Call) (σ : AS) (dst : Option Nat) (K : AS → Prop) : Prop := match c.callee with
  | .builtin b => quietB b = true ∧ exBuiltin P b c.argTypes (evs P σ c.argTypes c.args) σ dst K
  | .value f => match fnOf (σ.ev P 0 f) with
    | some (k, caps) => bodyOk P k = true ∧ (match (evs P σ c.argTypes c.args ++ caps).any need with
      | false => ∃ as, stripL (evs P σ c.argTypes c.args ++ caps) = some as ∧ quietN P k as σ dst K
      | true => ∃ as, lendL σ.m (evs P σ c.argTypes c.args ++ caps) = some as ∧ quietK P k as σ dst K)
    | none => False
  | _ => False

/-- A literal of a slice where nobody adds to it. -/
def exLitD (P : Program) (t len : Nat) (ps : List (Nat × AV)) (K : AV → Prop) : Prop := match apA P t with
  | some (z, _) => match toDVs (ps.map (·.2)) with
    | some ds => (ps.map (·.1) == List.range len) = true ∧ (ps.all fun p => isCell p.2) = true ∧ (ds.all fun d => (dcells d).length == z) = true ∧ len * z ≤ 16777216 ∧ len ≤ 16777216 ∧ K (.sl z ds .no)
    | none => False
  | none => False

/-- The slot's value without a mark. -/
def erAt (σ : AS) (dst : Option Nat) : AS := match dst with
  | some d => ⟨σ.s.set d (er1 (nth σ.s d)), σ.m⟩
  | none => σ
def KE (dst : Option Nat) (K : AS → Prop) (τ : AS) : Prop := K τ ∨ K (erAt τ dst)

theorem erAt_put (σ : AS) (dst : Option Nat) (v : AV) : erAt (σ.put dst v) dst = σ.put dst (er1 v) := by
  cases dst with
  | none => rfl
  | some d =>
    simp only [erAt, AS.put, nth_set, true_and]
    congr 1
    apply List.ext_getElem?
    intro j
    simp only [List.getElem?_set]
    split
    · rename_i hj
      subst hj
      by_cases hd : d < σ.s.length
      · simp [hd]
      · simp [hd]
    · rfl

theorem St.erAt {E : Env} {σ : AS} {a : Act} {w : World} (h : St E σ a w) (dst : Option Nat) : St E (erAt σ dst) a w := by
  cases dst with
  | none => exact h
  | some d =>
    obtain ⟨G, hi, hs, hd, hr⟩ := h
    refine ⟨G, hi, by simp [AB.erAt, hs], hd, fun t => ?_⟩
    simp only [AB.erAt, nth_set]
    split
    · rename_i ht
      obtain ⟨rfl, _⟩ := ht
      exact er1_rep (hr d)
    · exact hr t

def exOpD (P : Program) (o : Oper) (σ : AS) (K : AS → Prop) : Prop := match o.op with
  | .move x => K (σ.put o.dst (σ.ev P o.type x))
  | .assign x => K (σ.put o.dst (σ.ev P o.type x))
  | .pick c a b => exPick (σ.ev P 0 c) (σ.ev P o.type a) (σ.ev P o.type b) (kPut σ o.dst K)
  | .build t ps => fsOk P t = true ∧ exBuild P t (evP P σ t ps) (kPut σ o.dst K)
  | .buildSlice t len ps => exLitD P t len (evP P σ t ps) (kPut σ o.dst K)
  | .load t a => exLoad P σ.m t (σ.ev P 0 a) (kPut σ o.dst K)
  | .nilCheck x => nilOk (σ.ev P 0 x) = true ∧ K (σ.put o.dst (σ.ev P 0 x))
  | .binOp op t x y _ => exBin P op t (σ.ev P t x) (σ.ev P t y) (kPut σ o.dst K)
  | .unOp op t x => exUn op (σ.ev P t x) (kPut σ o.dst K)
  | .convert s d x => bytesA P d = false ∧ exConv P s d (σ.ev P s x) (kPut σ o.dst K)
  | .makeInterface t x => concA P t = true ∧ K (σ.put o.dst (.iface t (σ.ev P t x)))
  | .makeFunc (.func f) first caps => first.toList.length = 0 ∧ K (σ.put o.dst (.fn f (caps.toList.map (σ.ev P 0))))
  | .slice t x lo hi none => exCut P t (σ.ev P t x) (lo.map (σ.ev P 0)) (hi.map (σ.ev P 0)) (kPut σ o.dst K)
  | .fieldAddr s x f => exField P s (σ.ev P 0 x) f (kPut σ o.dst K)
  | .field s x f => exFieldV P s (σ.ev P s x) f (kPut σ o.dst K)
  | .indexAddr t x i => exIndexAddr P t (σ.ev P t x) (σ.ev P 0 i) (kPut σ o.dst K)
  | .index t x i => exIndexV P t (σ.ev P t x) (σ.ev P 0 i) (kPut σ o.dst K)
  | .extract x i => exExtract (σ.ev P 0 x) i (kPut σ o.dst K)
  | .lookup t x k ok => exLookup P σ.m t (σ.ev P t x) (σ.ev P 0 k) ok (kPut σ o.dst K)
  | .call c => exCallD P c σ o.dst K
  | _ => False

def exGD (P : Program) (ops : Array Oper) (o : Oper) (σ : AS) (K : AS → Prop) : Prop := match o.guard with
  | none => exOpD P o σ K
  | some (j, want) => match (ops[j]?).bind (·.dst) with
    | some d => (match nth σ.s d with
      | .bool b => gateW want b (exOpD P o (σ.put (some d) (.bool want)) K) (K ((σ.put (some d) (.bool !want)).put o.dst undefA))
      | .raw (.tuple _) => K (σ.put o.dst undefA)
      | _ => False)
    | none => False

def exOpsD (P : Program) (ops : Array Oper) : List Oper → AS → (AS → Prop) → Prop
  | [], σ, K => K σ
  | o :: r, σ, K => exGD P ops o σ (kOps (exOpsD P ops r) K)

/-- The two states agree in all that an operation looks at. -/
structure Agree (ops : Array Oper) (o : Oper) (σ σ' : AS) : Prop where
  s : ∀ t ∈ o.looksAt ops, nth σ'.s t = nth σ.s t
  h : σ'.m.h = σ.m.h
  o : σ'.m.o = σ.m.o

/-- The operation puts this value, in a state that may have seen calls since. -/
def Puts (σ : AS) (dst : Option Nat) (v : AV) (K : AS → Prop) : Prop :=
  ∀ nx lv, σ.m.nx ≤ nx → (∀ j, σ.m.lv j → lv j) → K (AS.put ⟨σ.s, ⟨σ.m.h, σ.m.o, nx, lv⟩⟩ dst v)

theorem Puts.self {σ : AS} {dst : Option Nat} {v : AV} {K : AS → Prop} (h : Puts σ dst v K) : K (σ.put dst v) := h σ.m.nx σ.m.lv (Nat.le_refl _) (fun _ x => x)

theorem mslD_same {m m' : AH} (e1 : m'.h = m.h) (e2 : m'.o = m.o) (l : Loc) (off len : Nat) : mslD m' l off len = mslD m l off len := by
  simp only [mslD, cells_eq e1 e2]
theorem toDF_same {m m' : AH} (e1 : m'.h = m.h) (e2 : m'.o = m.o) (a : AV) : toDF m' a = toDF m a := by
  cases a <;> first | rfl | exact mslD_same e1 e2 _ _ _ | skip
  rename_i f cs
  cases cs <;> rfl
theorem toDFs_same {m m' : AH} (e1 : m'.h = m.h) (e2 : m'.o = m.o) : ∀ as : List AV, toDFs m' as = toDFs m as
  | [] => rfl
  | a :: as => by simp only [toDFs, toDF_same e1 e2, toDFs_same e1 e2 as]
theorem lend1_same {m m' : AH} (e1 : m'.h = m.h) (e2 : m'.o = m.o) (a : AV) : lend1 m' a = lend1 m a := by
  cases a <;> simp only [lend1, cells_eq e1 e2, toDFs_same e1 e2, mslD_same e1 e2]
theorem lend1L_same {m m' : AH} (e1 : m'.h = m.h) (e2 : m'.o = m.o) : ∀ as : List AV, lend1L m' as = lend1L m as
  | [] => rfl
  | a :: as => by simp only [lend1L, lend1_same e1 e2, lend1L_same e1 e2 as]
theorem lend_same {m m' : AH} (e1 : m'.h = m.h) (e2 : m'.o = m.o) (a : AV) : lend m' a = lend m a := by
  cases a <;> simp only [lend, lend1_same e1 e2, lend1L_same e1 e2]
theorem lendL_same {m m' : AH} (e1 : m'.h = m.h) (e2 : m'.o = m.o) : ∀ as : List AV, lendL m' as = lendL m as
  | [] => rfl
  | a :: as => by simp only [lendL, lend_same e1 e2, lendL_same e1 e2 as]

section
variable {P : Program} {ops : Array Oper} {o : Oper} {σ σ' : AS}

theorem Agree.ev (a : Agree ops o σ σ') {x : Operand} (hx : x ∈ o.op.operands) (ty : Nat) : σ'.ev P ty x = σ.ev P ty x := by
  cases x with
  | tmp t => exact a.s t (List.mem_append_left _ (List.mem_filterMap.2 ⟨.tmp t, by simpa using hx, rfl⟩))
  | _ => rfl

theorem Agree.evs (a : Agree ops o σ σ') {xs : Array Operand} (hx : ∀ x ∈ xs, x ∈ o.op.operands) (tys : Array Nat) : evs P σ' tys xs = evs P σ tys xs := by
  unfold AB.evs
  apply List.map_congr_left
  intro p hp
  refine a.ev (hx _ ?_) _
  have := List.fst_mem_of_mem_zipIdx hp
  simpa using this

/-- What a quiet operation comes to. -/
def YieldsA (P : Program) (ops : Array Oper) (o : Oper) (v : AV) (σ : AS) : Prop := ∀ σ', Agree ops o σ σ' → ∀ K', Puts σ' o.dst v K' → exG P ops o σ' (KE o.dst K')

theorem det_use {f : (AV → Prop) → Prop} (d : Det f) {K : AS → Prop} {dst : Option Nat} (h : f (kPut σ dst K)) {C : AS → (AS → Prop) → Prop}
    (hc : ∀ σ', Agree ops o σ σ' → ∀ K', f (kPut σ' dst K') → C σ' K') :
    ∃ v, K (σ.put dst v) ∧ ∀ σ', Agree ops o σ σ' → ∀ K', Puts σ' dst v K' → C σ' K' := by
  obtain ⟨v, h1, h2⟩ := d _ h
  exact ⟨v, h1, fun σ' ag K' hK' => hc σ' ag K' (h2 _ hK'.self)⟩

theorem exOpD_local0 {K : AS → Prop} (hb : ∀ t len ps, o.op ≠ .buildSlice t len ps) (h : exOpD P o σ K) : ∃ v, K (σ.put o.dst v) ∧ ∀ σ', Agree ops o σ σ' → ∀ K', Puts σ' o.dst v K' → exOp P o σ' K' := by
  obtain ⟨dst, op, ty, pos, after, guard⟩ := o
  have e1 : ∀ σ', Agree ops ⟨dst, op, ty, pos, after, guard⟩ σ σ' → ∀ x ∈ op.operands, ∀ t, σ'.ev P t x = σ.ev P t x := fun σ' ag x hx t => ag.ev hx t
  cases op with
  | move x => exact ⟨_, h, fun σ' ag K' hK' => by simp only [exOp]; rw [e1 σ' ag x (by simp [Op.operands])]; exact hK'.self⟩
  | assign x => exact ⟨_, h, fun σ' ag K' hK' => by simp only [exOp]; rw [e1 σ' ag x (by simp [Op.operands])]; exact hK'.self⟩
  | pick c x y =>
    exact det_use exPick_det h fun σ' ag K' hK' => by
      simp only [exOp]
      rw [e1 σ' ag c (by simp [Op.operands]), e1 σ' ag x (by simp [Op.operands]), e1 σ' ag y (by simp [Op.operands])]; exact hK'
  | build t ps =>
    have h' := h.2
    exact det_use exBuild_det h' fun σ' ag K' hK' => by
      simp only [exOp]
      refine ⟨h.1, ?_⟩
      have : evP P σ' t ps = evP P σ t ps := by
        unfold evP
        apply List.map_congr_left
        intro p hp
        rw [e1 σ' ag p.2 (by simp only [Op.operands, List.mem_toArray, List.mem_map]; exact ⟨p, hp, rfl⟩)]
      rw [this]; exact hK'
  | load t x =>
    exact det_use exLoad_det h fun σ' ag K' hK' => by
      simp only [exOp]
      rw [e1 σ' ag x (by simp [Op.operands])]; exact exLoad_same ag.h ag.o hK'
  | nilCheck x => exact ⟨_, h.2, fun σ' ag K' hK' => by simp only [exOp]; rw [e1 σ' ag x (by simp [Op.operands])]; exact ⟨h.1, hK'.self⟩⟩
  | binOp op t x y yt =>
    exact det_use exBin_det h fun σ' ag K' hK' => by
      simp only [exOp]
      rw [e1 σ' ag x (by simp [Op.operands]), e1 σ' ag y (by simp [Op.operands])]; exact hK'
  | unOp op t x =>
    exact det_use exUn_det h fun σ' ag K' hK' => by
      simp only [exOp]
      rw [e1 σ' ag x (by simp [Op.operands])]; exact hK'
  | convert s d x =>
    exact det_use exConv_det h.2 fun σ' ag K' hK' => by
      simp only [exOp, exConvB, h.1]
      rw [e1 σ' ag x (by simp [Op.operands])]; exact hK'
  | makeInterface t x => exact ⟨_, h.2, fun σ' ag K' hK' => by simp only [exOp]; rw [e1 σ' ag x (by simp [Op.operands])]; exact ⟨h.1, hK'.self⟩⟩
  | makeFunc fn first caps =>
    cases fn with
    | func f =>
      refine ⟨_, h.2, fun σ' ag K' hK' => ?_⟩
      simp only [exOp]
      refine ⟨h.1, ?_⟩
      have : caps.toList.map (σ'.ev P 0) = caps.toList.map (σ.ev P 0) := by
        apply List.map_congr_left
        intro x hx
        exact e1 σ' ag x (by simp only [Op.operands, Array.mem_append]; exact .inr (by simpa using hx)) 0
      rw [this]; exact hK'.self
    | _ => exact False.elim h
  | slice t x lo hi mx =>
    cases mx with
    | none =>
      refine det_use exCut_det h fun σ' ag K' hK' => ?_
      simp only [exOp]
      have h1 : lo.map (σ'.ev P 0) = lo.map (σ.ev P 0) := by
        cases lo with
        | none => rfl
        | some y => simp only [Option.map_some]; rw [e1 σ' ag y (by simp [Op.operands])]
      have h2 : hi.map (σ'.ev P 0) = hi.map (σ.ev P 0) := by
        cases hi with
        | none => rfl
        | some y => simp only [Option.map_some]; rw [e1 σ' ag y (by simp [Op.operands])]
      rw [h1, h2, e1 σ' ag x (by simp [Op.operands])]; exact hK'
    | some _ => exact False.elim h
  | fieldAddr s x f =>
    exact det_use exField_det h fun σ' ag K' hK' => by
      simp only [exOp]
      rw [e1 σ' ag x (by simp [Op.operands])]; exact hK'
  | field s x f =>
    exact det_use exFieldV_det h fun σ' ag K' hK' => by
      simp only [exOp]
      rw [e1 σ' ag x (by simp [Op.operands])]; exact hK'
  | indexAddr t x i =>
    exact det_use exIndexAddr_det h fun σ' ag K' hK' => by
      simp only [exOp]
      rw [e1 σ' ag x (by simp [Op.operands]), e1 σ' ag i (by simp [Op.operands])]; exact hK'
  | index t x i =>
    exact det_use exIndexV_det h fun σ' ag K' hK' => by
      simp only [exOp]
      rw [e1 σ' ag x (by simp [Op.operands]), e1 σ' ag i (by simp [Op.operands])]; exact hK'
  | lookup t x k ok =>
    exact det_use exLookup_det h fun σ' ag K' hK' => by
      simp only [exOp]
      rw [e1 σ' ag x (by simp [Op.operands]), e1 σ' ag k (by simp [Op.operands])]; exact exLookup_same ag.h ag.o hK'
  | extract x i =>
    exact det_use exExtract_det h fun σ' ag K' hK' => by
      simp only [exOp]
      rw [e1 σ' ag x (by simp [Op.operands])]; exact hK'
  | call c =>
    obtain ⟨callee, args, argTypes⟩ := c
    have e2 : ∀ σ', Agree ops ⟨dst, .call ⟨callee, args, argTypes⟩, ty, pos, after, guard⟩ σ σ' → evs P σ' argTypes args = evs P σ argTypes args := fun σ' ag =>
      ag.evs (fun x hx => by simp only [Op.operands, Call.operands, Array.mem_append]; exact .inr hx) _
    cases callee with
    | builtin b =>
      obtain ⟨hq, h⟩ := h
      simp only at h
      unfold exBuiltin at h
      split at h
      · rename_i t x hts has
        refine det_use exLen_det h fun σ' ag K' hK' => ?_
        simp only [exOp, exCall]
        rw [e2 σ' ag]
        unfold exBuiltin
        simp only [hts, has]
        exact hK'
      · cases hq
      · refine det_use exMM_det h fun σ' ag K' hK' => ?_
        simp only [exOp, exCall]
        rw [e2 σ' ag]
        exact hK'
      · refine det_use exMM_det h fun σ' ag K' hK' => ?_
        simp only [exOp, exCall]
        rw [e2 σ' ag]
        exact hK'
      · exact h.elim
    | value f =>
      simp only [exOpD, exCallD] at h
      split at h
      · rename_i k caps hf
        obtain ⟨hb, h⟩ := h
        split at h
        · rename_i hn
          obtain ⟨as, has, r, hcall, hr, hK⟩ := h
          refine ⟨r, hK, fun σ' ag K' hK' => ?_⟩
          simp only [exOp, exCall]
          rw [e1 σ' ag f (by simp [Op.operands, Call.operands]), hf]
          simp only [e2 σ' ag, hn]
          refine ⟨hb, as, has, ?_⟩
          unfold callX
          refine .inl ⟨_, hcall, ?_⟩
          unfold callK
          rintro m' x hx nx2 lv2 g1 g2 _
          cases hx
          rw [hr]
          exact hK' nx2 lv2 g1 g2
        · rename_i hn
          obtain ⟨as, has, h⟩ := h
          unfold quietK at h
          obtain ⟨r, hcall, hr, hK⟩ := h
          refine ⟨r, hK, fun σ' ag K' hK' => ?_⟩
          simp only [exOp, exCall]
          rw [e1 σ' ag f (by simp [Op.operands, Call.operands]), hf]
          simp only [e2 σ' ag, hn]
          have hl : ∀ as, lendL σ'.m as = lendL σ.m as := lendL_same ag.h ag.o
          exact ⟨hb, .inl ⟨as, by rw [hl]; exact has, by unfold quietK; exact ⟨_, hcall, hr, hK'.self⟩⟩⟩
      · exact h.elim
    | invoke _ _ => exact False.elim h
  | buildSlice t len ps => exact absurd rfl (hb t len ps)
  | _ => exact False.elim h

theorem exOpD_local {K : AS → Prop} (h : exOpD P o σ K) : ∃ v, K (σ.put o.dst v) ∧ ∀ σ', Agree ops o σ σ' → ∀ K', Puts σ' o.dst v K' → exOp P o σ' (KE o.dst K') := by
  by_cases hb : ∀ t len ps, o.op ≠ .buildSlice t len ps
  · obtain ⟨v, h1, h2⟩ := exOpD_local0 (ops := ops) hb h
    exact ⟨v, h1, fun σ' ag K' hK' => h2 σ' ag _ (fun nx lv g1 g2 => .inl (hK' nx lv g1 g2))⟩
  · obtain ⟨dst, op, ty, pos, after, guard⟩ := o
    cases op with
    | buildSlice t len ps =>
      simp only [exOpD] at h
      unfold exLitD at h
      split at h
      · rename_i z y hap
        split at h
        · rename_i ds hds
          obtain ⟨h1, h2, h3, h4, h5, hK⟩ := h
          refine ⟨_, hK, fun σ' ag K' hK' => ?_⟩
          have : evP P σ' t ps = evP P σ t ps := by
            unfold evP
            apply List.map_congr_left
            intro p hp
            rw [ag.ev (by simp only [Op.operands, List.mem_toArray, List.mem_map]; exact ⟨p, hp, rfl⟩)]
          simp only [exOp]
          rw [this]
          unfold exLit
          simp only [hap, hds]
          refine ⟨h1, h2, h3, h4, h5, .inr ?_⟩
          have e := hK' (σ'.m.nx + 1) (σ'.m.app .no).lv (Nat.le_succ _) (fun j hj => .inr ⟨hj, by simp⟩)
          rw [erAt_put]
          exact e
        · exact h.elim
      · exact h.elim
    | _ => exact absurd (fun _ _ _ e => by cases e) hb

theorem exGD_local {K : AS → Prop} (h : exGD P ops o σ K) : ∃ v, K (σ.put o.dst v) ∧ YieldsA P ops o v σ := by
  unfold exGD at h
  unfold YieldsA
  split at h
  · rename_i hg
    obtain ⟨v, h1, h2⟩ := exOpD_local (ops := ops) h
    exact ⟨v, h1, fun σ' ag K' hK' => by unfold exG; rw [hg]; exact h2 σ' ag K' hK'⟩
  · rename_i j want hg
    split at h
    · rename_i d hd
      have hmem : d ∈ o.looksAt ops := by
        unfold Oper.looksAt
        rw [hg]
        exact List.mem_append_right _ (by simp [hd])
      split at h
      · rename_i b hb
        have h := gateW_iff.1 h
        by_cases hbw : b = want
        · have h1 := h.1 hbw
          rw [put_same (hb.trans (by rw [hbw])) (by simp [undefA])] at h1
          obtain ⟨v, h2, h3⟩ := exOpD_local (ops := ops) h1
          refine ⟨v, h2, fun σ' ag K' hK' => ?_⟩
          have hb' : nth σ'.s d = .bool b := (ag.s d hmem).trans hb
          unfold exG
          simp only [hg, hd, hb']
          refine gateW_iff.2 ⟨fun _ => ?_, fun e => by subst hbw; cases b <;> cases e⟩
          rw [put_same (hb'.trans (by rw [hbw])) (by simp [undefA])]
          exact h3 σ' ag K' hK'
        · have hbw2 : b = !want := by cases b <;> cases want <;> simp_all
          have h2 := h.2 hbw2
          rw [put_same (hb.trans (by rw [hbw2])) (by simp [undefA])] at h2
          refine ⟨_, h2, fun σ' ag K' hK' => ?_⟩
          have hb' : nth σ'.s d = .bool b := (ag.s d hmem).trans hb
          unfold exG
          simp only [hg, hd, hb']
          refine gateW_iff.2 ⟨fun e => absurd e hbw, fun _ => ?_⟩
          rw [put_same (hb'.trans (by rw [hbw2])) (by simp [undefA])]
          exact .inl hK'.self
      · rename_i vs hb
        refine ⟨_, h, fun σ' ag K' hK' => ?_⟩
        have hb' := (ag.s d hmem).trans hb
        unfold exG
        simp only [hg, hd, hb']
        exact .inl hK'.self
      · exact h.elim
    · exact h.elim

end

theorem exG_ok {P : Program} {E : Env} {ops : Array Oper} {o : Oper} {i : Nat} {σ : AS} {K : AS → Prop} {Q : Exit → Act → World → Prop} {a : Act} {w : World} (hT : TabsOk P E) (hi : ops[i]? = some o) (h : exG P ops o σ K) (hst : St E σ a w) :
    wpOp P ops Q i (fun a' w' => ∃ σ', St E σ' a' w' ∧ K σ') a w := by
  unfold wpOp
  simp only [hi]
  unfold exG at h
  split at h
  · rename_i hg
    have hw : Region.wanted o (yielded ops a.tmps) = true := by simp [Region.wanted, hg]
    rw [if_pos hw]
    exact .inl (exOp_ok hT h hst Q)
  · rename_i j want hg
    split at h
    · rename_i d hd
      obtain ⟨y1, y2⟩ := yielded_of hst hd
      split at h
      · rename_i b hb
        have h := gateW_iff.1 h
        have hy := y1 b hb
        by_cases hbw : b = want
        · have hw : Region.wanted o (yielded ops a.tmps) = true := by simp [Region.wanted, hg, hy, hbw]
          rw [if_pos hw]
          have h1 := h.1 hbw
          rw [put_same (hb.trans (by rw [hbw])) (by simp [undefA])] at h1
          exact .inl (exOp_ok hT h1 hst Q)
        · have hbw2 : b = !want := by cases b <;> cases want <;> simp_all
          have hw : ¬ Region.wanted o (yielded ops a.tmps) = true := by simp [Region.wanted, hg, hy, hbw]
          rw [if_neg hw]
          have h2 := h.2 hbw2
          rw [put_same (hb.trans (by rw [hbw2])) (by simp [undefA])] at h2
          exact ⟨_, skip_st o.dst hst, h2⟩
      · rename_i vs hb
        have hy := y2 vs hb
        have hw : ¬ Region.wanted o (yielded ops a.tmps) = true := by simp [Region.wanted, hg, hy]
        rw [if_neg hw]
        exact ⟨_, skip_st o.dst hst, h⟩
      · exact h.elim
    · exact h.elim

end Go.AB
