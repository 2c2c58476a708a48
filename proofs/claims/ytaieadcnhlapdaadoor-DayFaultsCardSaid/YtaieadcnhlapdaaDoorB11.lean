/- Each operation of a region, held against the real one; regions, branches, loops; a function's body. -/
import Derived.Test.YtaieadcnhlapdaaDoorB30
namespace Go.AB

def bodyOk (P : Program) (f : Nat) : Bool := match P.funcs[f]? with
  | some fn => fn.name != "runtime.NumGoroutine" && fn.body.isSome
  | none => false

def evs (P : Program) (σ : AS) (tys : Array Nat) (xs : Array Operand) : List AV := xs.toList.zipIdx.map fun p => σ.ev P (tys.getD p.2 0) p.1

def kPut (σ : AS) (dst : Option Nat) (K : AS → Prop) (v : AV) : Prop := K (σ.put dst v)
def kMem (σ : AS) (dst : Option Nat) (K : AS → Prop) (m : AH) (v : AV) : Prop := K (AS.put ⟨σ.s, m⟩ dst v)
def kMem1 (σ : AS) (dst : Option Nat) (K : AS → Prop) (m : AH) : Prop := K (AS.put ⟨σ.s, m⟩ dst undefA)

def callK (σ : AS) (dst : Option Nat) (R : AH → AV → Prop) (K : AS → Prop) : Prop :=
  ∀ m' r, R m' r → ∀ nx2 lv2, σ.m.nx ≤ nx2 → (∀ j, σ.m.lv j → lv2 j) → (∀ j, m'.lv j → lv2 (σ.m.nx + j)) → K (AS.put ⟨σ.s, ⟨σ.m.h, σ.m.o, nx2, lv2⟩⟩ dst (shV σ.m.nx r))

def quietK (P : Program) (k : Nat) (as : List AV) (σ : AS) (dst : Option Nat) (K : AS → Prop) : Prop := ∃ r, PCall P k as (RV r) ∧ plain r = true ∧ kPut σ dst K r
def exBuiltin (P : Program) (b : Builtin) (ts : Array Nat) (as : List AV) (σ : AS) (dst : Option Nat) (K : AS → Prop) : Prop := match b, ts.toList, as with
  | .len, [t], [a] => exLen P t a (kPut σ dst K)
  | .append, [t, t'], [s, x] => exAppX P σ.m dst t t' s x (kMem σ dst K)
  | .min, _, as => exMM false as (kPut σ dst K)
  | .max, _, as => exMM true as (kPut σ dst K)
  | _, _, _ => False

/-- A call of a function that is handed nothing of one's own. -/
def callX (P : Program) (k : Nat) (as args : List AV) (σ : AS) (dst : Option Nat) (K : AS → Prop) : Prop := (∃ R, PCall P k as R ∧ callK σ dst R K) ∨ inlK P k args σ dst K
/-- A call of a function that is handed one's own. -/
def effX (P : Program) (k : Nat) (args : List AV) (σ : AS) (dst : Option Nat) (K : AS → Prop) : Prop := effK P k args σ dst K ∨ inlK P k args σ dst K

def exCall (P : Program) (c : Call) (σ : AS) (dst : Option Nat) (K : AS → Prop) : Prop := match c.callee with
  | .builtin b => exBuiltin P b c.argTypes (evs P σ c.argTypes c.args) σ dst K
  | .value f => match fnOf (σ.ev P 0 f) with
    | some (k, caps) => bodyOk P k = true ∧ (match (evs P σ c.argTypes c.args ++ caps).any need with
      | false => ∃ as, stripL (evs P σ c.argTypes c.args ++ caps) = some as ∧ callX P k as (evs P σ c.argTypes c.args ++ caps) σ dst K
      | true => (∃ as, lendL σ.m (evs P σ c.argTypes c.args ++ caps) = some as ∧ quietK P k as σ dst K) ∨ effX P k (evs P σ c.argTypes c.args ++ caps) σ dst K)
    | none => False
  | _ => False

def exConvB (P : Program) (s d : Nat) (a : AV) (K : AV → Prop) : Prop := match bytesA P d with
  | true => exBytes P s a K
  | false => exConv P s d a K
def evP (P : Program) (σ : AS) (t : Nat) (ps : Array (Nat × Operand)) : List (Nat × AV) := ps.toList.map fun p => (p.1, σ.ev P (partTy P t p.1) p.2)

def exOp (P : Program) (o : Oper) (σ : AS) (K : AS → Prop) : Prop := match o.op with
  | .move x => K (σ.put o.dst (σ.ev P o.type x))
  | .assign x => K (σ.put o.dst (σ.ev P o.type x))
  | .pick c a b => exPick (σ.ev P 0 c) (σ.ev P o.type a) (σ.ev P o.type b) (kPut σ o.dst K)
  | .alloc t => match o.dst, bldT P t with
    | some d, some e => K (AS.put ⟨σ.s, σ.m.newBox d [.bld t e []]⟩ (some d) (.bref (.own d (gnext σ.m d))))
    | some d, none => match zeroA P t with
      | some zs => K (AS.put ⟨σ.s, σ.m.newBox d zs⟩ (some d) (.ptr (.own d (gnext σ.m d)) 0))
      | none => False
    | none, _ => False
  | .box t x => match o.dst with
    | some d => isCell (σ.ev P t x) = true ∧ K (AS.put ⟨σ.s, σ.m.newBox d (acells (σ.ev P t x))⟩ (some d) (.ptr (.own d (gnext σ.m d)) 0))
    | none => False
  | .build t ps => fsOk P t = true ∧ exBuild P t (evP P σ t ps) (kPut σ o.dst K)
  | .buildSlice t len ps => exLit P σ.m t len (evP P σ t ps) (kMem σ o.dst K)
  | .load t a => exLoad P σ.m t (σ.ev P 0 a) (kPut σ o.dst K)
  | .store t a x => exStore P σ.m t (σ.ev P 0 a) (σ.ev P t x) (kMem1 σ o.dst K)
  | .nilCheck x => nilOk (σ.ev P 0 x) = true ∧ K (σ.put o.dst (σ.ev P 0 x))
  | .binOp op t x y _ => exBin P op t (σ.ev P t x) (σ.ev P t y) (kPut σ o.dst K)
  | .unOp op t x => exUn op (σ.ev P t x) (kPut σ o.dst K)
  | .convert s d x => exConvB P s d (σ.ev P s x) (kPut σ o.dst K)
  | .makeInterface t x => concA P t = true ∧ K (σ.put o.dst (.iface t (σ.ev P t x)))
  | .makeFunc (.func f) first caps => first.toList.length = 0 ∧ K (σ.put o.dst (.fn f (caps.toList.map (σ.ev P 0))))
  | .makeSlice t l c => exMake P σ.m o.dst t (σ.ev P 0 l) (σ.ev P 0 c) (kMem σ o.dst K)
  | .slice t x lo hi none => exCut P t (σ.ev P t x) (lo.map (σ.ev P 0)) (hi.map (σ.ev P 0)) (kPut σ o.dst K)
  | .fieldAddr s x f => exField P s (σ.ev P 0 x) f (kPut σ o.dst K)
  | .field s x f => exFieldV P s (σ.ev P s x) f (kPut σ o.dst K)
  | .indexAddr t x i => exIndexAddr P t (σ.ev P t x) (σ.ev P 0 i) (kPut σ o.dst K)
  | .index t x i => exIndexV P t (σ.ev P t x) (σ.ev P 0 i) (kPut σ o.dst K)
  | .extract x i => exExtract (σ.ev P 0 x) i (kPut σ o.dst K)
  | .makeMap _ none => match o.dst with
    | some d => K (AS.put ⟨σ.s, σ.m.newBox d [.mapc [] []]⟩ (some d) (.mref (.own d (gnext σ.m d))))
    | none => False
  | .lookup t x k ok => exLookup P σ.m t (σ.ev P t x) (σ.ev P 0 k) ok (kPut σ o.dst K)
  | .mapUpdate t x k v => exUpdate P σ.m t (σ.ev P t x) (σ.ev P 0 k) (σ.ev P 0 v) (kMem1 σ o.dst K)
  | .call c => exCall P c σ o.dst K
  | _ => False

def NoQ : Exit → Act → World → Prop := fun _ _ _ => False

/-- What one real operation comes to. -/
def Does (P : Program) (E : Env) (o : Oper) (a : Act) (w : World) (K : AS → Prop) : Prop := ∀ Q, o.wp P a w (fun a' w' => ∃ σ', St E σ' a' w' ∧ K σ') Q

section
variable {P : Program} {E : Env} {o : Oper} {σ : AS} {a : Act} {w : World} {K : AS → Prop} {G : Gh}

theorem does_mem (hs : a.tmps.size = σ.s.length) (hd : a.defers = []) (hr : ∀ t, RepA G w (nth σ.s t) (a.tmps.getD t undef))
    (h : ∃ G' m' w' v u, ((execOp a.eval o).run P w = .ok (.value u) w' ∨ ((execOp a.eval o).run P w = .ok .skip w' ∧ u = undef)) ∧ Ext G w G' w' ∧ Inv E G' m' w' ∧ RepA G' w' v u ∧ K (AS.put ⟨σ.s, m'⟩ o.dst v)) : Does P E o a w K := by
  intro Q
  obtain ⟨G', m', w', v, u, h1, h2, h3, h4, h5⟩ := h
  unfold Oper.wp
  rcases h1 with h1 | ⟨h1, rfl⟩
  · rw [h1]; exact ⟨_, St.step hs hd hr h2 h3 h4, h5⟩
  · rw [h1]; exact ⟨_, St.step hs hd hr h2 h3 h4, h5⟩

theorem does_val (hi : Inv E G σ.m w) (hs : a.tmps.size = σ.s.length) (hd : a.defers = []) (hr : ∀ t, RepA G w (nth σ.s t) (a.tmps.getD t undef))
    (h : ∃ v u, (execOp a.eval o).run P w = .ok (.value u) w ∧ RepA G w v u ∧ K (σ.put o.dst v)) : Does P E o a w K := by
  obtain ⟨v, u, h1, h2, h3⟩ := h
  exact does_mem hs hd hr ⟨G, σ.m, w, v, u, .inl h1, Ext.refl G w, hi, h2, h3⟩

theorem evs_rep (hr : ∀ t, RepA G w (nth σ.s t) (a.tmps.getD t undef)) (tys : Array Nat) (xs : Array Operand) : RepArgs G w (evs P σ tys xs) (xs.toList.map a.eval) := by
  refine ⟨by simp [evs], fun i c v hc hv => ?_⟩
  simp only [evs, List.getElem?_map, List.getElem?_zipIdx] at hc
  rw [List.getElem?_map] at hv
  cases hx : xs.toList[i]? with
  | none => rw [hx] at hv; cases hv
  | some x =>
    rw [hx] at hc hv
    cases hc; cases hv
    exact ev_rep hr _ x

theorem evP_rep (hr : ∀ t, RepA G w (nth σ.s t) (a.tmps.getD t undef)) (t : Nat) (ps : Array (Nat × Operand)) :
    (ps.map fun (i, x) => (i, a.eval x)).toList.length = (evP P σ t ps).length ∧ ∀ (i : Nat) (p : Nat × AV) (q : Nat × Value), (evP P σ t ps)[i]? = some p → (ps.map fun (i, x) => (i, a.eval x)).toList[i]? = some q → p.1 = q.1 ∧ RepA G w p.2 q.2 := by
  refine ⟨by simp [evP], fun i p q hp hq => ?_⟩
  simp only [evP, List.getElem?_map] at hp
  rw [Array.toList_map, List.getElem?_map] at hq
  cases hx : ps.toList[i]? with
  | none => rw [hx] at hq; cases hq
  | some x =>
    rw [hx] at hp hq
    cases hp; cases hq
    exact ⟨rfl, ev_rep hr _ x.2⟩

theorem opt_rep (hr : ∀ t, RepA G w (nth σ.s t) (a.tmps.getD t undef)) (x : Option Operand) :
    (x.map (σ.ev P 0) = none ∧ x.map a.eval = none) ∨ ∃ c v, x.map (σ.ev P 0) = some c ∧ x.map a.eval = some v ∧ RepA G w c v := by
  cases x with
  | none => exact .inl ⟨rfl, rfl⟩
  | some x => exact .inr ⟨_, _, rfl, rfl, ev_rep hr _ x⟩

theorem exStore_ok {m : AH} {t : Nat} {p x : AV} {pv xv : Value} {K : AH → Prop} (h : exStore P m t p x K) (hi : Inv E G m w) (hp : RepA G w p pv) (hx : RepA G w x xv) :
    ∃ m' w', (Instr.storeAt t pv xv).run P w = .ok () w' ∧ Ext G w G w' ∧ Inv E G m' w' ∧ K m' := by
  unfold exStore at h
  split at h
  · rename_i l off
    split at h
    · rename_i cs ag n hcs hty
      obtain ⟨h1, h2, h3, hK⟩ := h
      cases hp with
      | ptr _ _ b o' hb h0 =>
        have hc := hx.cells h1
        obtain ⟨run, g1, g2⟩ := hi.store (P := P) hcs hb h0 (by rw [h2]; exact h3) xv.cells.toList hc.len hc.one hc.rep
        refine ⟨_, _, ?_, g1, g2, hK⟩
        have hsz : xv.cells.size = n := by rw [← h2, ← hc.len]; simp
        simp [Instr.storeAt, Instr.sureAddr, storeVar, tyA_size hty, hsz, run]
    · exact h.elim
  · exact h.elim

theorem exPick_ok {c x y : AV} {cv xv yv : Value} {K : AV → Prop} (h : exPick c x y K) (hc : RepA G w c cv) (hx : RepA G w x xv) (hy : RepA G w y yv) :
    ∃ v u, (do pure (.value (if ← asBool cv then xv else yv)) : Sem Next).run P w = .ok (.value u) w ∧ RepA G w v u ∧ K v := by
  unfold exPick at h
  split at h
  · rename_i t
    cases hc
    split at h
    · rename_i p q
      cases hx; cases hy
      exact ⟨_, .bool (if t then p else q), by cases t <;> simp [asBool], .bool _, h⟩
    · cases t with
      | true => exact ⟨_, _, by simp [asBool], hx, h.1 rfl⟩
      | false => exact ⟨_, _, by simp [asBool], hy, h.2 rfl⟩
  · exact h.elim

theorem exMake_ok {m : AH} {d : Option Nat} {t : Nat} {l c : AV} {lv cv : Value} {K : AH → AV → Prop} (h : exMake P m d t l c K) (hi : Inv E G m w) (hl : RepA G w l lv) (hc : RepA G w c cv) :
    ∃ G' m' w' v u, (Instr.makeSlice t lv cv).run P w = .ok u w' ∧ Ext G w G' w' ∧ Inv E G' m' w' ∧ RepA G' w' v u ∧ K m' v := by
  unfold exMake at h
  split at h
  · rename_i d kl n kc c
    split at h
    · rename_i zs y hmk
      unfold mkA at hmk
      split at hmk
      · rename_i e hu
        split at hmk
        rotate_left
        · cases hmk
        rename_i zs' i hz hinf
        cases hmk
        obtain ⟨h0, rfl, hb, h63, hK⟩ := h
        obtain ⟨i', zv, hinf', hzv, hzs, hrep⟩ := zeroA_of hz
        rw [hinf] at hinf'
        cases hinf'
        cases hl; cases hc
        have run := run_make (P := P) w t e i zv hu hinf hzv kl kc n n h0 (Int.le_refl _) hb h63
        have hzl : zv.cells.toList.length = i.size := by simp [hzs]
        have hm := madeA_rep (hrep G w) n.toNat
        rw [hzl] at hm
        obtain ⟨G', g1, g2, g3⟩ := hi.newBox d e (madeA zs n.toNat) (madeCells zv.cells (n.toNat * i.size)).toList (by have := hm.len; simpa using this) (by have := hm.one; simpa using this) (by have := hm.rep; simpa using this)
        have e1 : (madeCells zv.cells (n.toNat * i.size)).toList.toArray = madeCells zv.cells (n.toNat * i.size) := by simp
        rw [e1] at g1 g2
        exact ⟨G', _, _, _, _, run, g1, g2, .msl _ 0 _ _ _ _ g3 (by simp [mapMark]) (Nat.le_refl _) (by simp [maxLen]; omega), hK⟩
      · cases hmk
    · exact h.elim
  · exact h.elim

theorem exOp_ok (hT : TabsOk P E) (h : exOp P o σ K) (hst : St E σ a w) : Does P E o a w K := by
  obtain ⟨G, hi, hs, hd, hr⟩ := hst
  obtain ⟨dst, op, ty, pos, after, guard⟩ := o
  have ev := fun (t : Nat) (x : Operand) => ev_rep (P := P) (σ := σ) (a := a) hr t x
  cases op with
  | move x => exact does_val hi hs hd hr ⟨_, _, by simp [execOp], ev ty x, h⟩
  | assign x => exact does_val hi hs hd hr ⟨_, _, by simp [execOp], ev ty x, h⟩
  | pick c x y =>
    simp only [exOp] at h
    obtain ⟨v, u, h1, h2, h3⟩ := exPick_ok (P := P) h (ev 0 c) (ev ty x) (ev ty y)
    exact does_val hi hs hd hr ⟨v, u, h1, h2, h3⟩
  | alloc t =>
    simp only [exOp] at h
    split at h
    · rename_i d e hb
      obtain ⟨i, zv, hinf, hzv, hzs⟩ := bldT_of hb
      obtain ⟨G', g1, g2, g3⟩ := hi.newBld d t e
      refine does_mem hs hd hr ⟨G', _, _, _, _, .inl ?_, g1, g2, .bref _ _ g3, h⟩
      simp [execOp, Instr.alloc, zeroValue, typeInfo, hinf, hzv, newVar, newRow, hzs]
    · rename_i d hb
      split at h
      · rename_i zs hz
        obtain ⟨i, zv, hinf, hzv, hzs, hrep⟩ := zeroA_of hz
        have hR := hrep G w
        obtain ⟨G', g1, g2, g3⟩ := hi.newBox d t zs zv.cells.toList hR.len hR.one hR.rep
        refine does_mem hs hd hr ⟨G', _, _, _, _, .inl ?_, g1, g2, .ptr _ 0 _ _ g3 (by simp [mapMark]), h⟩
        simp [execOp, Instr.alloc, zeroValue, typeInfo, hinf, hzv, newVar, newRow]
      · exact h.elim
    · exact h.elim
  | box t x =>
    simp only [exOp] at h
    split at h
    · rename_i d
      obtain ⟨hc, hK⟩ := h
      have hR := (ev t x).cells hc
      obtain ⟨G', g1, g2, g3⟩ := hi.newBox d t _ (a.eval x).cells.toList hR.len hR.one hR.rep
      refine does_mem hs hd hr ⟨G', _, _, _, _, .inl ?_, g1, g2, .ptr _ 0 _ _ g3 (by simp [mapMark]), hK⟩
      simp [execOp, Instr.box, newVar, newRow]
    · exact h.elim
  | build t ps =>
    simp only [exOp] at h
    obtain ⟨h1, h2⟩ := evP_rep (P := P) hr t ps
    obtain ⟨v, u, h3, h4, h5⟩ := exBuild_ok h.1 h.2 h1 h2
    exact does_val hi hs hd hr ⟨v, u, by simp only [execOp, Sem.run_bind, h3, Result.andThen_ok]; rfl, h4, h5⟩
  | buildSlice t len ps =>
    simp only [exOp] at h
    obtain ⟨h1, h2⟩ := evP_rep (P := P) hr t ps
    obtain ⟨G', m', w', v, u, h3, h4, h5, h6, h7⟩ := exLit_ok h hi h1 h2
    exact does_mem hs hd hr ⟨G', m', w', v, u, .inl (by simp only [execOp, Sem.run_bind, h3, Result.andThen_ok]; rfl), h4, h5, h6, h7⟩
  | load t x =>
    simp only [exOp] at h
    obtain ⟨v, u, h1, h2, h3⟩ := exLoad_ok h hi (ev 0 x)
    exact does_val hi hs hd hr ⟨v, u, by simp [execOp, h1], h2, h3⟩
  | store t x y =>
    simp only [exOp] at h
    obtain ⟨m', w', h1, h2, h3, h4⟩ := exStore_ok h hi (ev 0 x) (ev t y)
    exact does_mem hs hd hr ⟨G, m', w', undefA, undef, .inr ⟨by simp [execOp, h1], rfl⟩, h2, h3, .raw _, h4⟩
  | nilCheck x =>
    simp only [exOp] at h
    obtain ⟨h1, h2⟩ := h
    have hx := ev 0 x
    have key : ∀ (b : AV) (xv : Value), RepA G w b xv → nilOk b = true → a.eval x = xv → (execOp a.eval ⟨dst, .nilCheck x, ty, pos, after, guard⟩).run P w = .ok (.value xv) w := by
      intro b xv hb hn hxv
      simp only [execOp, hxv]
      cases hb <;> first | (cases hn; done) | rfl
    exact does_val hi hs hd hr ⟨_, _, key _ _ hx h1 rfl, hx, h2⟩
  | binOp op t x y yt =>
    simp only [exOp] at h
    obtain ⟨v, u, h1, h2, h3⟩ := exBin_ok (xo := x) (yo := y) h (ev t x) (ev t y)
    exact does_val hi hs hd hr ⟨v, u, by simp only [execOp]; rw [Sem.run_bind, h1]; rfl, h2, h3⟩
  | unOp op t x =>
    simp only [exOp] at h
    obtain ⟨v, u, h1, h2, h3⟩ := exUn_ok (P := P) h (ev t x)
    exact does_val hi hs hd hr ⟨v, u, by simp [execOp, h1], h2, h3⟩
  | convert s d x =>
    simp only [exOp] at h
    unfold exConvB at h
    split at h
    · rename_i hb
      obtain ⟨G', w', v, u, h1, h2, h3, h4, h5⟩ := exBytes_ok h hb hi (ev s x)
      exact does_mem hs hd hr ⟨G', σ.m, w', v, u, .inl (by simp [execOp, h1]), h2, h3, h4, h5⟩
    · obtain ⟨v, u, h1, h2, h3⟩ := exConv_ok h (ev s x)
      exact does_val hi hs hd hr ⟨v, u, by simp [execOp, h1], h2, h3⟩
  | makeInterface t x =>
    simp only [exOp] at h
    obtain ⟨h1, h2⟩ := h
    have hc : P.concrete t = true := by
      unfold concA at h1; unfold Program.concrete; exact h1
    exact does_val hi hs hd hr ⟨_, .iface t (a.eval x), by simp [execOp, run_makeInterface w t _ hc], .iface _ _ _ (ev t x), h2⟩
  | makeFunc fn first caps =>
    cases fn with
    | func f =>
      obtain ⟨h1, h2⟩ := h
      have hf : first.map a.eval = #[] := by
        apply Array.ext'
        simp at h1
        simp [h1]
      refine does_val hi hs hd hr ⟨_, .func (.func f) #[] (caps.toList.map a.eval).toArray, ?_, .fn f _ (caps.toList.map a.eval) (by simp) (fun i c v hc hv => ?_), h2⟩
      · simp only [execOp, Instr.makeFunc, hf, Sem.run_bind, Sem.run_pure, Result.andThen_ok]
        congr 3
        apply Array.ext'
        simp
      · rw [List.getElem?_map] at hc hv
        cases hx : caps.toList[i]? with
        | none => rw [hx] at hv; cases hv
        | some x => rw [hx] at hc hv; cases hc; cases hv; exact ev 0 x
    | _ => exact False.elim h
  | makeSlice t l c =>
    simp only [exOp] at h
    obtain ⟨G', m', w', v, u, h3, h4, h5, h6, h7⟩ := exMake_ok (P := P) h hi (ev 0 l) (ev 0 c)
    exact does_mem hs hd hr ⟨G', m', w', v, u, .inl (by simp [execOp, h3]), h4, h5, h6, h7⟩
  | slice t x lo hi' mx =>
    cases mx with
    | none =>
      simp only [exOp] at h
      obtain ⟨v, u, h1, h2, h3⟩ := exCut_ok h (ev t x) (opt_rep hr lo) (opt_rep hr hi')
      exact does_val hi hs hd hr ⟨v, u, by simp [execOp, h1], h2, h3⟩
    | some _ => exact False.elim h
  | fieldAddr s x f =>
    simp only [exOp] at h
    obtain ⟨v, u, h1, h2, h3⟩ := exField_ok h (ev 0 x)
    exact does_val hi hs hd hr ⟨v, u, by simp [execOp, h1], h2, h3⟩
  | field s x f =>
    simp only [exOp] at h
    obtain ⟨v, u, h1, h2, h3⟩ := exFieldV_ok h (ev s x)
    exact does_val hi hs hd hr ⟨v, u, by simp [execOp, h1], h2, h3⟩
  | indexAddr t x i =>
    simp only [exOp] at h
    obtain ⟨v, u, h1, h2, h3⟩ := exIndexAddr_ok h (ev t x) (ev 0 i)
    exact does_val hi hs hd hr ⟨v, u, by simp [execOp, h1], h2, h3⟩
  | index t x i =>
    simp only [exOp] at h
    obtain ⟨v, u, h1, h2, h3⟩ := exIndexV_ok h (ev t x) (ev 0 i)
    exact does_val hi hs hd hr ⟨v, u, by simp [execOp, h1], h2, h3⟩
  | extract x i =>
    have hx := ev 0 x
    simp only [exOp, exExtract] at h
    split at h
    · rename_i vs hv
      rw [hv] at hx
      split at h
      · rename_i v hvi
        have key : ∀ xv, RepA G w (.tup vs) xv → ∃ u, (Instr.extract xv i).run P w = .ok u w ∧ RepA G w v u := by
          intro xv hxv
          cases hxv with
          | tup _ us hl hrr =>
            have hlt : i < us.length := by rw [hl]; exact (List.getElem?_eq_some_iff.1 hvi).1
            exact ⟨us[i], by simp [Instr.extract, hlt], hrr i v _ hvi (List.getElem?_eq_getElem hlt)⟩
        obtain ⟨u, h1, h2⟩ := key _ hx
        exact does_val hi hs hd hr ⟨v, u, by simp [execOp, h1], h2, h⟩
      · exact h.elim
    · exact h.elim
  | makeMap t r =>
    cases r with
    | some r => exact False.elim h
    | none =>
      simp only [exOp] at h
      split at h
      · rename_i d
        obtain ⟨G', g1, g2, g3⟩ := hi.newMap d
        refine does_mem hs hd hr ⟨G', _, _, _, _, .inl ?_, g1, g2, .mref _ _ g3, h⟩
        simp [execOp, Instr.makeMap]
      · exact h.elim
  | lookup t x k ok =>
    simp only [exOp] at h
    obtain ⟨v, u, h1, h2, h3⟩ := exLookup_ok h hi (ev t x) (ev 0 k)
    exact does_val hi hs hd hr ⟨v, u, by simp [execOp, h1], h2, h3⟩
  | mapUpdate t x k v =>
    simp only [exOp] at h
    obtain ⟨m', w', h1, h2, h3, h4⟩ := exUpdate_ok h hi (ev t x) (ev 0 k) (ev 0 v)
    exact does_mem hs hd hr ⟨G, m', w', undefA, undef, .inr ⟨by simp [execOp, h1], rfl⟩, h2, h3, .raw _, h4⟩
  | call c =>
    simp only [exOp, exCall] at h
    obtain ⟨callee, args, argTypes⟩ := c
    have hev := evs_rep (P := P) hr argTypes args
    cases callee with
    | builtin b =>
      simp only [exBuiltin] at h
      have hres : ∀ (r : Result Value) (f : Array TypeId → TypeId → Array Value → Sem Value), (f argTypes ty (args.map a.eval)).run P w = r →
          (∀ cs, builtin b argTypes ty cs (args.map a.eval) = (do pure (.value (← f argTypes ty (args.map a.eval))))) →
          (execOp a.eval ⟨dst, .call ⟨.builtin b, args, argTypes⟩, ty, pos, after, guard⟩).run P w = r.andThen fun v w' => .ok (.value v) w' := by
        intro r f h1 h2
        simp only [execOp, resolve, Sem.run_bind, Sem.run_pure, Result.andThen_ok, invoke]
        rw [h2, Sem.run_bind, h1]
        rfl
      have hlist : (args.map a.eval) = (args.toList.map a.eval).toArray := by apply Array.ext'; simp
      split at h
      · rename_i t x hts has
        rw [has] at hev
        obtain ⟨h1, h2⟩ := hev
        have hts' : argTypes = #[t] := by apply Array.ext'; simpa using hts
        obtain ⟨y, hy⟩ := List.length_eq_one_iff.1 h1
        rw [hy] at h2
        obtain ⟨v, u, h3, h4, h5⟩ := exLen_ok (ty := ty) h (h2 0 x y rfl rfl)
        refine does_val hi hs hd hr ⟨v, u, ?_, h4, h5⟩
        have h3' := h3
        rw [← hts', ← hy, ← hlist] at h3'
        rw [hres _ Builtin.len_ h3' (fun _ => rfl)]
        rfl
      · rename_i t t' x y hts has
        rw [has] at hev
        obtain ⟨h1, h2⟩ := hev
        have hts' : argTypes = #[t, t'] := by apply Array.ext'; simpa using hts
        obtain ⟨p, q, hy⟩ : ∃ p q, args.toList.map a.eval = [p, q] := by
          match hm : args.toList.map a.eval, h1 with
          | [p, q], _ => exact ⟨p, q, rfl⟩
        rw [hy] at h2
        obtain ⟨G', m', w', v, u, h3, h4, h5, h6, h7⟩ := exAppX_ok (ty := ty) h hi (h2 0 x p rfl rfl) (h2 1 y q rfl rfl)
        refine does_mem hs hd hr ⟨G', m', w', v, u, .inl ?_, h4, h5, h6, h7⟩
        have h3' := h3
        rw [← hts', ← hy, ← hlist] at h3'
        rw [hres _ Builtin.append_ h3' (fun _ => rfl)]
        rfl
      · obtain ⟨v, u, h3, h4, h5⟩ := exMM_ok (P := P) (ts := argTypes) (ty := ty) h hev.1 hev.2
        refine does_val hi hs hd hr ⟨v, u, ?_, h4, h5⟩
        have h3' := h3
        rw [← hlist] at h3'
        rw [hres _ Builtin.min_ h3' (fun _ => rfl)]
        rfl
      · obtain ⟨v, u, h3, h4, h5⟩ := exMM_ok (P := P) (ts := argTypes) (ty := ty) h hev.1 hev.2
        refine does_val hi hs hd hr ⟨v, u, ?_, h4, h5⟩
        have h3' := h3
        rw [← hlist] at h3'
        rw [hres _ Builtin.max_ h3' (fun _ => rfl)]
        rfl
      · exact h.elim
    | value f =>
      simp only at h
      split at h
      · rename_i k caps hf
        have hfr := ev 0 f
        obtain ⟨hb, h⟩ := h
        obtain ⟨us, hfv, hul, hus⟩ : ∃ us : List Value, a.eval f = .func (.func k) #[] us.toArray ∧ us.length = caps.length ∧ ∀ (i : Nat) (c : AV) (v : Value), caps[i]? = some c → us[i]? = some v → RepA G w c v := by
          generalize a.eval f = fv at hfr
          generalize σ.ev P 0 f = fa at hf hfr
          unfold fnOf at hf
          split at hf
          · cases hf
            cases hfr with
            | fn _ _ vs h1 h2 => exact ⟨vs, rfl, h1, h2⟩
          · rename_i f' xa xb
            split at hf
            · rename_i h1 h2
              cases hf
              cases hfr
              refine ⟨[], ?_, rfl, by simp⟩
              have e1 : xa = #[] := by apply Array.ext'; simpa using h1
              have e2 : xb = #[] := by apply Array.ext'; simpa using h2
              rw [e1, e2]
            · cases hf
          · cases hf
        have hall : RepArgs G w (evs P σ argTypes args ++ caps) (args.toList.map a.eval ++ us) := by
          refine ⟨by rw [List.length_append, List.length_append, hev.1, hul], fun i c v hc hv => ?_⟩
          by_cases hlt : i < (evs P σ argTypes args).length
          · rw [List.getElem?_append_left hlt] at hc
            rw [List.getElem?_append_left (by rw [hev.1]; exact hlt)] at hv
            exact hev.2 i c v hc hv
          · rw [List.getElem?_append_right (by omega)] at hc
            rw [List.getElem?_append_right (by rw [hev.1]; omega), hev.1] at hv
            exact hus _ c v hc hv
        have hent : (execOp a.eval ⟨dst, .call ⟨.value f, args, argTypes⟩, ty, pos, after, guard⟩).run P w = .ok (.enter k (args.toList.map a.eval ++ us).toArray) w := by
          have e1 : (#[] ++ args.map a.eval ++ us.toArray : Array Value) = (args.toList.map a.eval ++ us).toArray := by apply Array.ext'; simp
          unfold bodyOk at hb
          split at hb
          · rename_i fn hfn
            simp only [Bool.and_eq_true, bne_iff_ne, ne_eq] at hb
            obtain ⟨hb1, hb2⟩ := hb
            have hb3 : fn.body.isNone = false := by cases hbb : fn.body <;> simp_all
            have hb4 : (fn.name == "runtime.NumGoroutine") = false := by simpa using hb1
            simp only [execOp, resolve, Deferred.ofValue, hfv, Sem.run_bind, Sem.run_pure, Result.andThen_ok, invoke, callFunc, run_program, hfn, hb3, hb4, Bool.false_eq_true, if_false]
            rw [e1]
          · cases hb
        intro Q
        unfold Oper.wp
        rw [hent]
        show Calls P k _ w _
        split at h
        · obtain ⟨as, has, h | h⟩ := h
          rotate_left
          · refine (inlK_ok hT h hi hall).mono ?_
            rintro e w' ⟨v, m2, r2, G2, rfl, g1, g2, g3, g4⟩
            exact ⟨_, St.step hs hd hr g1 g2 g3, g4⟩
          obtain ⟨R, hcall, hK⟩ := h
          have hrep := stripL_rep _ _ _ has hall
          unfold PCall at hcall
          refine (hcall G.st w _ (hT w hi.kept) (fun b o hst => st_lt hi hst) hrep).mono ?_
          rintro e w' ⟨v, r, G', m', rfl, g1, g4, g5, g6⟩
          obtain ⟨G2, k1, k2, k3⟩ := hi.call g1
          refine ⟨_, St.step hs hd hr k1 k2 (shV_rep k3 g4 g5), hK m' r g6 _ _ (Nat.le_add_right _ _) (fun j hj => .inl hj) (fun j hj => .inr ⟨Nat.le_add_right _ _, ?_⟩)⟩
          rw [Nat.add_sub_cancel_left]
          exact hj
        · rcases h with ⟨as, has, r, hcall, hp, hK⟩ | h | h
          · have hrep := lendL_rep hi _ _ _ has hall
            unfold PCall at hcall
            refine (hcall (stAll w) w _ (hT w hi.kept) (fun b o hst => hst) hrep).mono ?_
            rintro e w' ⟨v, r', G', m', rfl, g1, g4, g5, rfl⟩
            obtain ⟨k1, k2⟩ := hi.lent g1
            exact ⟨_, St.step hs hd hr k1 k2 (plain_rep g4 hp), hK⟩
          · refine (effK_ok hT h hi hall).mono ?_
            rintro e w' ⟨v, m2, r2, G2, rfl, g1, g2, g3, g4⟩
            exact ⟨_, St.step hs hd hr g1 g2 g3, g4⟩
          · refine (inlK_ok hT h hi hall).mono ?_
            rintro e w' ⟨v, m2, r2, G2, rfl, g1, g2, g3, g4⟩
            exact ⟨_, St.step hs hd hr g1 g2 g3, g4⟩
      · exact h.elim
    | invoke r m => exact h.elim
  | _ => exact False.elim h

end

attribute [irreducible] exOp callK quietK callX effX

end Go.AB
