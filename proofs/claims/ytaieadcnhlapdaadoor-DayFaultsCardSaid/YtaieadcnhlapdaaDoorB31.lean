/- Walks by hand through a function's first steps: a literal of a slice that is still written to; a row that is handed back as it is. -/
import Derived.Test.YtaieadcnhlapdaaDoorB29
namespace Go.AB

theorem AW_of {P : Program} {E : Env} {c : Code} {σ : AS} {Q : Exit → AS → Prop} (h : exC P E c σ Q) : AW P E c Q σ := exC_ok c σ Q h

theorem AW_seq {P : Program} {E : Env} {a b : Code} {σ : AS} {Q : Exit → AS → Prop} (h : AW P E a (thenQ (fun σ => AW P E b Q σ) Q) σ) : AW P E (.seq a b) Q σ := by
  unfold AW at h ⊢
  intro hT x w hst
  refine wp_seq (wp_mono (h hT x w hst) ?_)
  rintro e a' w' ⟨σ', h1, h2⟩
  cases e with
  | normal =>
    simp only [thenQ] at h2
    exact h2 hT a' w' h1
  | _ => exact ⟨σ', h1, h2⟩

theorem AW_block {P : Program} {E : Env} {id : Nat} {c : Code} {σ : AS} {Q : Exit → AS → Prop} (h : AW P E c (blockQ id Q) σ) : AW P E (.block id c) Q σ := by
  unfold AW at h ⊢
  intro hT x w hst
  refine wp_block (wp_mono (h hT x w hst) ?_)
  rintro e a' w' ⟨σ', h1, h2⟩
  cases e with
  | exit id' =>
    simp only [blockQ] at h2
    simp only [Exit.inBlock]
    by_cases hid : id' = id
    · rw [if_pos hid] at h2 ⊢; exact ⟨σ', h1, h2⟩
    · rw [if_neg hid] at h2 ⊢; exact ⟨σ', h1, h2⟩
  | _ => exact ⟨σ', h1, h2⟩

/-- A literal of one element as an array of one's own, under a chosen name. -/
def exLitM (P : Program) (m : AH) (d t len : Nat) (ps : List (Nat × AV)) (K : AH → AV → Prop) : Prop := match mkA P t, ps with
  | some (zs, _), [(0, v)] => len = 1 ∧ isCell v = true ∧ (acells v).length = zs.length ∧ zs.length ≤ 16777216 ∧ 0 < zs.length ∧ K (m.newBox d (acells v)) (.msl (.own d (gnext m d)) 0 1 1)
  | _, _ => False

theorem exLitM_ok {P : Program} {E : Env} {G : Gh} {m : AH} {w : World} {d t len : Nat} {ps : List (Nat × AV)} {qs : Array (Nat × Value)} {K : AH → AV → Prop} (h : exLitM P m d t len ps K) (hi : Inv E G m w) (hl : qs.toList.length = ps.length)
    (hq : ∀ (i : Nat) (p : Nat × AV) (q : Nat × Value), ps[i]? = some p → qs.toList[i]? = some q → p.1 = q.1 ∧ RepA G w p.2 q.2) :
    ∃ G' m' w' v u, (Instr.buildSlice t len qs).run P w = .ok u w' ∧ Ext G w G' w' ∧ Inv E G' m' w' ∧ RepA G' w' v u ∧ K m' v := by
  unfold exLitM at h
  split at h
  rotate_left
  · exact h.elim
  rename_i zs y v hmk
  obtain ⟨rfl, hcell, hvl, hz24, hz0, hK⟩ := h
  unfold mkA at hmk
  split at hmk
  rotate_left
  · cases hmk
  rename_i e hu
  split at hmk
  rotate_left
  · cases hmk
  rename_i zs' inf hz hinf
  cases hmk
  obtain ⟨i', zv, hinf', hzv, hzs, hrep⟩ := zeroA_of hz
  rw [hinf] at hinf'
  cases hinf'
  have hzl : zs.length = inf.size := by
    have := (hrep G w).len
    rw [Array.length_toList, hzs] at this
    exact this.symm
  obtain ⟨q, hqq⟩ : ∃ q, qs.toList = [q] := List.length_eq_one_iff.1 hl
  obtain ⟨e1, e2⟩ := hq 0 _ q rfl (by rw [hqq]; rfl)
  have hc := e2.cells hcell
  let cells0 : Array Value := (Array.range (1 * zs.length)).map fun i => zv.cells[i % zv.cells.size]!
  have hc0 : cells0.size = zs.length := by simp [cells0]
  obtain ⟨out, ho, hout⟩ := fill_seq zs.length qs.toList 0 cells0 (fun i q' hqi => by
    rw [hqq] at hqi
    cases i with
    | succ i => cases hqi
    | zero =>
      cases hqi
      refine ⟨by rw [← e1], ?_⟩
      have := hc.len
      rw [Array.length_toList] at this
      rw [this, hvl]) (by rw [hc0, hqq]; simp)
  rw [Nat.zero_mul, Nat.zero_add, hqq, List.take_zero, List.nil_append, List.drop_eq_nil_of_le (by simp [hc0]), List.append_nil] at hout
  simp only [List.map_cons, List.map_nil, List.flatten_cons, List.flatten_nil, List.append_nil] at hout
  obtain ⟨G', g1, g2, g3⟩ := hi.newBox d e (acells v) q.2.cells.toList hc.len hc.one hc.rep
  refine ⟨G', _, _, _, .slice (some ⟨w.heap.size, 0, none⟩) 1 1, ?_, g1, g2, ?_, hK⟩
  · have hus : q.2.cells.toList.toArray = out := by apply Array.ext'; rw [hout]
    have hgt : ¬ (1 * zs.length > 2 ^ 24) := by omega
    have hzr : (zeroValue e).run P w = .ok zv w := by simp [zeroValue, typeInfo, hinf, hzv]
    have h0 : ¬ (1 * zs.length = 0) := by omega
    rw [hus]
    have hcc : cells0 = (Array.range (1 * zs.length)).map fun x => zv.cells[x % zv.cells.size]! := rfl
    rw [hcc] at ho
    rw [hzl] at hgt h0 ho
    simp only [Instr.buildSlice, Sem.run_bind, run_underlying hu, Result.andThen_ok, sizeOf, typeInfo, run_program, hinf, Sem.run_pure, if_neg hgt, if_neg h0, hzr]
    rw [ho]
    simp [newRow]
  · exact .msl _ 0 1 1 _ 0 g3 (by simp [mapMark]) (Nat.le_refl _) (by simp [maxLen])

/-- The operations of a region, of which one (by its number) is a literal that is to be an array of one's own. -/
def exGM (P : Program) (d0 : Nat) (o : Oper) (σ : AS) (K : AS → Prop) : Prop := match o.guard, o.op with
  | none, .buildSlice t len ps => exLitM P σ.m d0 t len (evP P σ t ps) (kMem σ o.dst K)
  | _, _ => False

def exOpsM (P : Program) (ops : Array Oper) (d0 : Nat) : Nat → List Oper → AS → (AS → Prop) → Prop
  | _, [], σ, K => K σ
  | 0, o :: r, σ, K => exGM P d0 o σ (kOps (exOps P ops r) K)
  | k + 1, o :: r, σ, K => exG P ops o σ (kOps (exOpsM P ops d0 k r) K)

/-- One operation, and what follows. -/
theorem exG_step {P : Program} {E : Env} {ops : Array Oper} {K : AS → Prop} {Q : Exit → Act → World → Prop} (hT : TabsOk P E) {rest : List Nat} {k : Nat} {o : Oper} {σ : AS} {a : Act} {w : World} (hok : ops[k]? = some o) (h : exG P ops o σ K)
    (cont : ∀ σ' a' w', St E σ' a' w' → K σ' → wpOps P ops Q rest a' w') (hst : St E σ a w) : wpOps P ops Q (k :: rest) a w := by
  rw [wpOps]
  simp only [hok]
  unfold exG at h
  split at h
  · rename_i hg
    have hw : Region.wanted o (yielded ops a.tmps) = true := by simp [Region.wanted, hg]
    rw [if_pos hw]
    left
    exact Oper.wp_mono (fun a' w' ⟨σ', h1, h2⟩ => cont σ' a' w' h1 h2) (exOp_ok hT h hst Q)
  · rename_i j want hg
    split at h
    · rename_i d hd
      obtain ⟨y1, y2⟩ := yielded_of hst hd
      split at h
      · rename_i b hb
        have h := gateW_iff.1 h
        have hy := y1 b hb
        by_cases hbw : b = want
        · have hw : Region.wanted o (yielded ops a.tmps) = true := by simp [Region.wanted, hg, hy, hbw]
          rw [if_pos hw]
          left
          have h1 := h.1 hbw
          rw [put_same (hb.trans (by rw [hbw])) (by simp [undefA])] at h1
          exact Oper.wp_mono (fun a' w' ⟨σ', h1, h2⟩ => cont σ' a' w' h1 h2) (exOp_ok hT h1 hst Q)
        · have hbw2 : b = !want := by cases b <;> cases want <;> simp_all
          have hw : ¬ Region.wanted o (yielded ops a.tmps) = true := by simp [Region.wanted, hg, hy, hbw]
          rw [if_neg hw]
          have h2 := h.2 hbw2
          rw [put_same (hb.trans (by rw [hbw2])) (by simp [undefA])] at h2
          exact cont _ _ _ (skip_st o.dst hst) h2
      · rename_i vs hb
        have hy := y2 vs hb
        have hw : ¬ Region.wanted o (yielded ops a.tmps) = true := by simp [Region.wanted, hg, hy]
        rw [if_neg hw]
        exact cont _ _ _ (skip_st o.dst hst) h
      · exact h.elim
    · exact h.elim

theorem exGM_step {P : Program} {E : Env} {ops : Array Oper} {d0 : Nat} {K : AS → Prop} {Q : Exit → Act → World → Prop} {rest : List Nat} {k : Nat} {o : Oper} {σ : AS} {a : Act} {w : World} (hok : ops[k]? = some o) (h : exGM P d0 o σ K)
    (cont : ∀ σ' a' w', St E σ' a' w' → K σ' → wpOps P ops Q rest a' w') (hst : St E σ a w) : wpOps P ops Q (k :: rest) a w := by
  rw [wpOps]
  simp only [hok]
  unfold exGM at h
  split at h
  · rename_i t len ps hg hop
    have hw : Region.wanted o (yielded ops a.tmps) = true := by simp [Region.wanted, hg]
    rw [if_pos hw]
    left
    obtain ⟨G, hi, hs, hd, hr⟩ := hst
    obtain ⟨dst, op, ty, pos, after, guard⟩ := o
    simp only at hop hg
    subst hop hg
    have hq := evP_rep (P := P) (σ := σ) (a := a) (G := G) (w := w) hr t ps
    obtain ⟨G', m', w', v, u, h1, h2, h3, h4, h5⟩ := exLitM_ok (qs := ps.map fun x => (x.1, a.eval x.2)) h hi (by simp [evP]) (fun i p q hp hq' => by
      simp only [evP, List.getElem?_map] at hp
      simp only [Array.toList_map, List.getElem?_map] at hq'
      cases hps : ps.toList[i]? with
      | none => rw [hps] at hp; cases hp
      | some x =>
        rw [hps] at hp hq'
        cases hp; cases hq'
        exact ⟨rfl, ev_rep hr _ _⟩)
    exact Oper.wp_mono (fun a' w' ⟨σ', h1, h2⟩ => cont σ' a' w' h1 h2) (does_mem (P := P) (E := E) (K := K) hs hd hr ⟨G', m', w', v, u, .inl (by
      simp only [execOp, Sem.run_bind, Sem.run_pure, Result.andThen_ok]
      rw [h1]
      rfl), h2, h3, h4, h5⟩ Q)
  · exact h.elim

theorem exOpsM_ok {P : Program} {E : Env} {ops : Array Oper} {d0 : Nat} {K : AS → Prop} {Q : Exit → Act → World → Prop} (hT : TabsOk P E) (hQ : ∀ σ a w, St E σ a w → K σ → Q .normal a w) :
    ∀ (n : Nat) (l : List Oper) (k : Nat) (σ : AS) (a : Act) (w : World), ops.toList.drop k = l → exOpsM P ops d0 n l σ K → St E σ a w → wpOps P ops Q (List.range' k l.length) a w
  | n, [], k, σ, a, w, _, h, hst => by simpa [wpOps] using hQ σ a w hst (by cases n <;> exact h)
  | 0, o :: r, k, σ, a, w, hk, h, hst => by
    have hok : ops[k]? = some o := by
      have := congrArg (·[0]?) hk
      simpa using this
    have hr : ops.toList.drop (k + 1) = r := by
      have := congrArg (List.drop 1) hk
      simpa [List.drop_drop, Nat.add_comm] using this
    rw [List.length_cons, List.range'_succ]
    exact exGM_step hok h (fun σ' a' w' h1 h2 => exOps_ok hT hQ r (k + 1) σ' a' w' hr h2 h1) hst
  | n + 1, o :: r, k, σ, a, w, hk, h, hst => by
    have hok : ops[k]? = some o := by
      have := congrArg (·[0]?) hk
      simpa using this
    have hr : ops.toList.drop (k + 1) = r := by
      have := congrArg (List.drop 1) hk
      simpa [List.drop_drop, Nat.add_comm] using this
    rw [List.length_cons, List.range'_succ]
    exact exG_step hT hok h (fun σ' a' w' h1 h2 => exOpsM_ok hT hQ n r (k + 1) σ' a' w' hr h2 h1) hst

theorem AW_regionM {P : Program} {E : Env} {id : Nat} {ops : Array Oper} {σ : AS} {Q : Exit → AS → Prop} (n d0 : Nat) (h : exOpsM P ops d0 n ops.toList σ (Q .normal)) : AW P E (.region id ops false) Q σ := by
  unfold AW
  intro hT a w hst
  refine wp_region ?_
  have := exOpsM_ok (P := P) (E := E) (ops := ops) (K := Q .normal) (Q := Lift E Q) hT (fun σ' a' w' h1 h2 => ⟨σ', h1, h2⟩) n ops.toList 0 σ a w (by simp) h hst
  rwa [Array.length_toList, ← List.range_eq_range'] at this

@[go_sem] theorem exOpsM_zero {P : Program} {ops : Array Oper} {d0 : Nat} {o : Oper} {r : List Oper} {σ : AS} {K : AS → Prop} : exOpsM P ops d0 0 (o :: r) σ K = exGM P d0 o σ (kOps (exOps P ops r) K) := (rfl)
@[go_sem] theorem exOpsM_succ {P : Program} {ops : Array Oper} {d0 n : Nat} {o : Oper} {r : List Oper} {σ : AS} {K : AS → Prop} : exOpsM P ops d0 (n + 1) (o :: r) σ K = exG P ops o σ (kOps (exOpsM P ops d0 n r) K) := (rfl)
@[congr] theorem exOpsM_congr {P : Program} {ops : Array Oper} {d0 n : Nat} {l : List Oper} {σ σ' : AS} {K : AS → Prop} (h : σ = σ') : exOpsM P ops d0 n l σ K = exOpsM P ops d0 n l σ' K := by rw [h]
@[congr] theorem exGM_congr {P : Program} {d0 : Nat} {o : Oper} {σ σ' : AS} {K : AS → Prop} (h : σ = σ') : exGM P d0 o σ K = exGM P d0 o σ' K := by rw [h]
@[congr] theorem exLitM_congr {P : Program} {m m' : AH} {d t len : Nat} {ps ps' : List (Nat × AV)} {K : AH → AV → Prop} (h : m = m') (h2 : ps = ps') : exLitM P m d t len ps K = exLitM P m' d t len ps' K := by rw [h, h2]
attribute [go_sem] exGM exLitM

/-! A row of one's own that is handed back. -/

/-- One's own array as a row that stays. -/
def SealAt (m : AH) (z : Nat) (v : AV) (es : List DV) : Prop :=
  ∃ l cap cs, v = .msl l 0 es.length cap ∧ m.cells l = some cs ∧ es.length ≤ cap ∧ cs.length = cap * z ∧ toDs (cs.take (es.length * z)) = some (es.flatMap dcells) ∧ ∀ (i : Nat) (e : DV), es[i]? = some e → (dcells e).length = z

theorem Inv.seal {E : Env} {G : Gh} {m : AH} {w : World} (h : Inv E G m w) (hE : ∀ l, E.g0.bx l = none) {z : Nat} {v : AV} {es : List DV} {u : Value} (hs : SealAt m z v es) (hv : RepA G w v u) :
    ∃ G', Inv E G' ⟨[], [], m.nx, m.lv⟩ w ∧ (∀ a x, portA a = true → RepA G w a x → RepA G' w a x) ∧ RepA G' w (.sl z es .no) u := by
  obtain ⟨l, cap, cs, rfl, hc, hlc, hcl, hds, hz⟩ := hs
  cases hv with
  | msl _ _ _ _ b o hb h0 _ hcm =>
  obtain ⟨b', o', hb', hwho, hmay, hst, hcell, _⟩ := h.box _ cs hc
  rw [hb] at hb'
  cases hb'
  have hcell := hcell h0
  let G' : Gh := { st := fun b2 j => G.st b2 j ∨ (b2 = b ∧ o ≤ j ∧ j < o + es.length * z), bx := fun _ => none, tk := G.tk, nx := G.nx, who := fun b2 => if b2 = b then none else match G.who b2 with | some (.inr j) => some (.inr j) | _ => none }
  have hstm : ∀ b2 o2, G.st b2 o2 → G'.st b2 o2 := fun _ _ x => .inl x
  have hren : Ren (fun _ => none) G G' := ⟨hstm, (fun _ _ _ hk => by cases hk), rfl, rfl⟩
  refine ⟨G', ⟨h.kept, fun l2 cs2 hc2 => ?_, fun _ _ _ => rfl, fun i hi => ?_, h.lt, h.nx, fun b2 hb2 => ?_, ?_, fun b2 o2 hs hb2 => ?_⟩, fun a x ha hr => ?_, ?_⟩
  · cases l2 <;> simp [AH.cells, hget] at hc2
  · rcases h.tok i hi with ht | ⟨b3, o3, n, c, z3, cells, ty, t1, t2, t3, t4, t5, t6, t7⟩
    · exact .inl ht
    · have hne : b3 ≠ b := fun e => by rw [e, hwho] at t2; cases t2
      refine .inr ⟨b3, o3, n, c, z3, cells, ty, t1, ?_, t3, t4, t5, t6, fun j hj hs => ?_⟩
      · show (if b3 = b then none else _) = _
        rw [if_neg hne, t2]
      · rcases hs with hs | ⟨e, _⟩
        · exact t7 j hj hs
        · exact hne e
  · have hne : b2 ≠ b := fun e => by have := who_lt h hwho; omega
    obtain ⟨f1, f2⟩ := h.fresh b2 hb2
    refine ⟨?_, fun j hs => ?_⟩
    · show (if b2 = b then none else _) = _
      rw [if_neg hne, f1]
    · rcases hs with hs | ⟨e, _⟩
      · exact f2 j hs
      · exact hne e
  · exact ⟨fun b2 o2 hs => hstm _ _ (h.ext.st _ _ hs), h.ext.cell, (fun l x hx => by rw [hE] at hx; cases hx), h.ext.nx, h.ext.tk⟩
  · rcases hs with hs | ⟨rfl, _⟩
    · exact h.st1 b2 o2 hs hb2
    · rcases hmay with hm | hm
      · exact .inr hm
      · omega
  · exact rnA_rep hren hr (rnA_port ha)
  · refine .sl z es .no _ cap ⟨hlc, hcm, hz, .inr ⟨b, o + 0, rfl, fun i e he j d hd => ?_⟩⟩ trivial
    have hi := (List.getElem?_eq_some_iff.1 he).1
    have hj : j < z := by rw [← hz i e he]; exact (List.getElem?_eq_some_iff.1 hd).1
    have hb3 := index_lt hi hj
    have hfl := flat_len hz
    -- the cell's datum
    have hdd : (es.flatMap dcells)[i * z + j]? = some d := by
      have hlt : i * z + j < (es.flatMap dcells).length := by rw [hfl]; exact hb3
      obtain ⟨i2, e2, j2, q1, q2, q3⟩ := flat_get hz (List.getElem?_eq_getElem hlt)
      have hj2 : j2 < z := by rw [← hz i2 e2 q1]; exact (List.getElem?_eq_some_iff.1 q2).1
      have hii : i = i2 := by
        have h1 : (i * z + j) / z = i := by rw [Nat.mul_comm, Nat.mul_add_div (by omega), Nat.div_eq_of_lt hj]; omega
        have h2 : (i2 * z + j2) / z = i2 := by rw [Nat.mul_comm, Nat.mul_add_div (by omega), Nat.div_eq_of_lt hj2]; omega
        rw [← h1, q3, h2]
      subst hii
      have hjj : j = j2 := by omega
      subst hjj
      rw [he] at q1
      cases q1
      rw [hd] at q2
      rw [List.getElem?_eq_getElem hlt, ← q2]
    obtain ⟨_, g2⟩ := toDs_get _ _ hds
    obtain ⟨c, hck, hcd⟩ := g2 _ _ hdd
    rw [List.getElem?_take, if_pos hb3] at hck
    obtain ⟨_, x, v1, v2, v3⟩ := hcell _ c hck
    exact ⟨.inr ⟨rfl, by omega, by omega⟩, x, by rw [Nat.add_zero]; exact v1, (toD1_rep hcd v3 v2).ext hstm (fun _ _ _ => rfl)⟩

def kBodyS (R : AH → AV → Prop) (m : AH) (vs : List AV) : Prop :=
  (port (resV vs) = true ∧ R m (resV vs)) ∨ ∃ z v es rest, vs = v :: rest ∧ SealAt m z v es ∧ rest.all portA = true ∧ R ⟨[], [], m.nx, m.lv⟩ (resV (.sl z es .no :: rest))

def bodyQS (P : Program) (rs : List ResultVar) (R : AH → AV → Prop) : Exit → AS → Prop
  | .normal, σ => resK P σ rs (kBodyS R σ.m)
  | .ret, σ => resK P σ rs (kBodyS R σ.m)
  | _, _ => False

/-- A function's body, walked in steps; its first result may be an array of its own. -/
theorem PCall.of_bodyS {P : Program} {f : Nat} {fn : Func} {c : Code} {as : List AV} {R : AH → AV → Prop} {n : Nat} {rs : List ResultVar} (hf : P.funcs[f]? = some fn) (hb : fn.body = some c) (hn : fn.ntmps = n) (hrs : fn.results.toList = rs)
    (h : ∀ E, AW P E c (bodyQS P rs R) ⟨as ++ List.replicate (n - as.length) undefA, emptyH⟩) : PCall P f as R := by
  subst hn hrs
  unfold PCall
  intro st w vs hlaid hst hrep
  refine calls_of_wp hf hb ?_
  let E : Env := ⟨w, fun _ => False, gh0 st⟩
  have hInv : Inv E (gh0 st) emptyH w := by
    refine ⟨⟨rfl, rfl, rfl, Nat.le_refl _, fun _ _ _ => rfl⟩, fun l cs hc => ?_, fun _ _ _ => rfl, fun i hi => hi.elim, fun i hi => hi.elim, rfl, fun b hb => ⟨rfl, fun j hs => ?_⟩, Ext.refl _ _, fun b o hs _ => .inl hs⟩
    · cases l <;> simp [emptyH, AH.cells, hget] at hc
    · have := hst b j hs; omega
  have hSt : St E ⟨as ++ List.replicate (fn.ntmps - as.length) undefA, emptyH⟩ { tmps := vs.toArray ++ Array.replicate (fn.ntmps - vs.toArray.size) undef, defers := [] } w := by
    refine ⟨gh0 st, hInv, by simp [hrep.1], rfl, fun t => ?_⟩
    by_cases ht : t < as.length
    · have h1 := List.getElem?_eq_getElem ht
      have h2 : t < vs.length := by rw [hrep.1]; exact ht
      have e1 : nth (as ++ List.replicate (fn.ntmps - as.length) undefA) t = as[t] := by
        have := nth_lt (l := as ++ List.replicate (fn.ntmps - as.length) undefA) (n := t) (by simp; omega)
        rw [List.getElem?_append_left ht, h1] at this
        exact (Option.some.inj this).symm
      have e2 : (vs.toArray ++ Array.replicate (fn.ntmps - vs.toArray.size) undef).getD t undef = vs[t] := by
        rw [Array.getD_eq_getD_getElem?, Array.getElem?_append_left (by simpa using h2)]
        simp [h2]
      rw [e1, e2]
      exact hrep.2 t _ _ h1 (List.getElem?_eq_getElem h2)
    · have e1 : nth (as ++ List.replicate (fn.ntmps - as.length) undefA) t = undefA := by
        by_cases ht2 : t < (as ++ List.replicate (fn.ntmps - as.length) undefA).length
        · have := nth_lt ht2
          rw [List.getElem?_append_right (by omega), List.getElem?_replicate] at this
          split at this
          · exact (Option.some.inj this).symm
          · cases this
        · exact nth_ge (by omega)
      have e2 : (vs.toArray ++ Array.replicate (fn.ntmps - vs.toArray.size) undef).getD t undef = undef := by
        rw [Array.getD_eq_getD_getElem?, Array.getElem?_append_right (by simp [hrep.1]; omega), Array.getElem?_replicate]
        split <;> rfl
      rw [e1, e2]
      exact .raw _
  have hw := h E
  unfold AW at hw
  refine wp_mono (hw hlaid.kept _ _ hSt) ?_
  rintro e a' w' ⟨σ, ⟨G, hi, hs, hd, hr⟩, hq⟩
  have fin : resK P σ fn.results.toList (kBodyS R σ.m) → a'.defers = [] ∧ ∃ v, (results fn a'.tmps).run P w' = .ok v w' ∧ ∃ v2 r G' m', Ending.returned v = .returned v2 ∧ Inv E G' m' w' ∧ RepA G' w' r v2 ∧ port r = true ∧ R m' r := by
    intro hk
    obtain ⟨us, rs, h1, h2, h3⟩ := resK_ok hi hr _ _ hk
    rw [← Array.toList_mapM, Sem.run_map] at h1
    generalize hX : Sem.run P (Array.mapM _ fn.results) w' = X at h1
    have h5 : X = .ok us.toArray w' := by
      cases X with
      | ok a w2 =>
        simp only [Result.andThen_ok, Result.ok.injEq] at h1
        obtain ⟨e1, rfl⟩ := h1
        congr 1
        apply Array.ext'
        simp [e1]
      | halt x w2 => cases h1
    rw [h5] at hX
    refine ⟨hd, (if hs : us.toArray.size = 1 then us.toArray[0] else .tuple us.toArray), ?_, ?_⟩
    · unfold results
      rw [Sem.run_bind]
      erw [hX]
      rfl
    · rcases h3 with ⟨h3, h4⟩ | ⟨z, v, es, rest, rfl, hse, hpo, h4⟩
      · exact ⟨_, _, G, σ.m, rfl, hi, resV_rep h2, h3, h4⟩
      · obtain ⟨l1, l2⟩ := h2
        cases us with
        | nil => simp at l1
        | cons u us =>
          obtain ⟨G', g1, g2, g3⟩ := hi.seal (fun _ => rfl) hse (l2 0 _ _ rfl rfl)
          refine ⟨_, _, G', _, rfl, g1, resV_rep ⟨by simpa using l1, fun i a x ha hx => ?_⟩, ?_, h4⟩
          · cases i with
            | zero => cases ha; cases hx; exact g3
            | succ i =>
              simp only [List.getElem?_cons_succ] at ha hx
              exact g2 a x (List.all_eq_true.1 hpo a (List.mem_of_getElem? ha)) (l2 (i + 1) a x (by simpa using ha) (by simpa using hx))
          · cases rest with
            | nil => rfl
            | cons a rest =>
              show ((AV.sl z es .no) :: a :: rest).all portA = true
              rw [List.all_cons, hpo]; rfl
  cases e with
  | normal => exact fin hq
  | ret => exact fin hq
  | _ => exact hq.elim

theorem PCall.of_bodySE {P : Program} {f : Nat} {fn : Func} {c : Code} {as : List AV} {r : AV} {n : Nat} {rs : List ResultVar} (hf : P.funcs[f]? = some fn) (hb : fn.body = some c) (hn : fn.ntmps = n) (hrs : fn.results.toList = rs)
    (h : ∀ E, AW P E c (bodyQS P rs (RE r)) ⟨as ++ List.replicate (n - as.length) undefA, emptyH⟩) : PCall P f as (RV r) :=
  (PCall.of_bodyS hf hb hn hrs h).erased fun _ _ h => h

/-- The body of a function that may write what it is handed, walked in steps. -/
theorem QCall.of_bodyA {P : Program} {f : Nat} {fn : Func} {c : Code} {m0 : AH} {as : List AV} {R : AH → AV → Prop} {n : Nat} {rs : List ResultVar} (hf : P.funcs[f]? = some fn) (hb : fn.body = some c) (hn : fn.ntmps = n) (hrs : fn.results.toList = rs)
    (h : ∀ E, AW P E c (bodyQW P rs R) ⟨as ++ List.replicate (n - as.length) undefA, m0⟩) : QCall P f m0 as R := by
  subst hn hrs
  unfold QCall
  intro E G0 w vs hT hw0 hg0 hInv hrep
  refine calls_of_wp hf hb ?_
  have hSt : St E ⟨as ++ List.replicate (fn.ntmps - as.length) undefA, m0⟩ { tmps := vs.toArray ++ Array.replicate (fn.ntmps - vs.toArray.size) undef, defers := [] } w := by
    refine ⟨G0, hInv, by simp [hrep.1], rfl, fun t => ?_⟩
    by_cases ht : t < as.length
    · have h1 := List.getElem?_eq_getElem ht
      have h2 : t < vs.length := by rw [hrep.1]; exact ht
      have e1 : nth (as ++ List.replicate (fn.ntmps - as.length) undefA) t = as[t] := by
        have := nth_lt (l := as ++ List.replicate (fn.ntmps - as.length) undefA) (n := t) (by simp; omega)
        rw [List.getElem?_append_left ht, h1] at this
        exact (Option.some.inj this).symm
      have e2 : (vs.toArray ++ Array.replicate (fn.ntmps - vs.toArray.size) undef).getD t undef = vs[t] := by
        rw [Array.getD_eq_getD_getElem?, Array.getElem?_append_left (by simpa using h2)]
        simp [h2]
      rw [e1, e2]
      exact hrep.2 t _ _ h1 (List.getElem?_eq_getElem h2)
    · have e1 : nth (as ++ List.replicate (fn.ntmps - as.length) undefA) t = undefA := by
        by_cases ht2 : t < (as ++ List.replicate (fn.ntmps - as.length) undefA).length
        · have := nth_lt ht2
          rw [List.getElem?_append_right (by omega), List.getElem?_replicate] at this
          split at this
          · exact (Option.some.inj this).symm
          · cases this
        · exact nth_ge (by omega)
      have e2 : (vs.toArray ++ Array.replicate (fn.ntmps - vs.toArray.size) undef).getD t undef = undef := by
        rw [Array.getD_eq_getD_getElem?, Array.getElem?_append_right (by simp [hrep.1]; omega), Array.getElem?_replicate]
        split <;> rfl
      rw [e1, e2]
      exact .raw _
  have hw := h E
  unfold AW at hw
  refine wp_mono (hw hT _ _ hSt) ?_
  rintro e a' w' ⟨σ, ⟨G, hi, hs, hd, hr⟩, hq⟩
  have fin : resK P σ fn.results.toList (kBodyW R σ.m) → a'.defers = [] ∧ ∃ v, (results fn a'.tmps).run P w' = .ok v w' ∧ ∃ v2 r G' m', Ending.returned v = .returned v2 ∧ Inv E G' m' w' ∧ RepA G' w' r v2 ∧ R m' r := by
    intro hk
    obtain ⟨us, rs, h1, h2, h4⟩ := resK_ok hi hr _ _ hk
    refine ⟨hd, _, ?_, _, _, G, σ.m, rfl, hi, resV_rep h2, h4⟩
    rw [← Array.toList_mapM, Sem.run_map] at h1
    generalize hX : Sem.run P (Array.mapM _ fn.results) w' = X at h1
    have h5 : X = .ok us.toArray w' := by
      cases X with
      | ok a w2 =>
        simp only [Result.andThen_ok, Result.ok.injEq] at h1
        obtain ⟨e1, rfl⟩ := h1
        congr 1
        apply Array.ext'
        simp [e1]
      | halt x w2 => cases h1
    rw [h5] at hX
    unfold results
    rw [Sem.run_bind]
    erw [hX]
    rfl
  cases e with
  | normal => exact fin hq
  | ret => exact fin hq
  | _ => exact hq.elim

@[go_sem] theorem bodyQS_normal {P : Program} {rs : List ResultVar} {R : AH → AV → Prop} {σ : AS} : bodyQS P rs R .normal σ = resK P σ rs (kBodyS R σ.m) := (rfl)
@[go_sem] theorem bodyQS_ret {P : Program} {rs : List ResultVar} {R : AH → AV → Prop} {σ : AS} : bodyQS P rs R .ret σ = resK P σ rs (kBodyS R σ.m) := (rfl)
@[congr] theorem kBodyS_congr {R : AH → AV → Prop} {m m' : AH} {vs vs' : List AV} (h : m = m') (h2 : vs = vs') : kBodyS R m vs = kBodyS R m' vs' := by rw [h, h2]

end Go.AB
