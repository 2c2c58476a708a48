/- Calls that may end in a panic of a known value; regions that panic; functions that defer. -/
import Derived.Test.YtkfhieigdlfbeaaDoorB140
import Derived.RecoverIn
import Derived.RangeFuncLeaves
namespace Go.AB

section
variable {P : Program}

/-- The one panic of a value. -/
def one (V : Value) : List PanicEntry := [{ v := V, recovered := false }]

/-- How such a call ends. -/
abbrev endP (E : Env) (R : AH → AV → Prop) (V : Value) (X : AH → Prop) (e : Ending) (w' : World) : Prop :=
  (∃ v r G' m', e = .returned v ∧ Inv E G' m' w' ∧ RepA G' w' r v ∧ R m' r) ∨ (∃ G' m', e = .panicked (one V) ∧ Inv E G' m' w' ∧ X m')
/-- What a call comes to that may write what it was handed, and may panic. -/
def QCallP (P : Program) (f : Nat) (m0 : AH) (as : List AV) (R : AH → AV → Prop) (V : Value) (X : AH → Prop) : Prop :=
  ∀ (E : Env) (G : Gh) (w : World) (vs : List Value), TabsOk P E → E.w0 = w → E.g0 = G → Inv E G m0 w → RepArgs G w as vs →
    Calls P f vs.toArray w (endP E R V X)

theorem QCallP.use {E : Env} {k : Nat} {args : List AV} {m : AH} {R : AH → AV → Prop} {V : Value} {X : AH → Prop} {G : Gh} {w : World} {vs : List Value} (hT : TabsOk P E) (h : QCallP P k m args R V X) (hi : Inv E G m w) (hr : RepArgs G w args vs) :
    Calls P k vs.toArray w fun e w' => (∃ v m2 r2 G2, e = .returned v ∧ Ext G w G2 w' ∧ Inv E G2 m2 w' ∧ RepA G2 w' r2 v ∧ R m2 r2) ∨ (∃ m2 G2, e = .panicked (one V) ∧ Ext G w G2 w' ∧ Inv E G2 m2 w' ∧ X m2) := by
  unfold QCallP at h
  refine (h (shareE E G w) G w vs (hT.share hi) rfl rfl hi.share hr).mono ?_
  rintro e w' (⟨v, r, G', m', rfl, g1, g2, g3⟩ | ⟨G', m', rfl, g1, g3⟩)
  · obtain ⟨e1, e2⟩ := hi.unshare g1
    exact .inl ⟨v, m', r, G', rfl, e1, e2, g2, g3⟩
  · obtain ⟨e1, e2⟩ := hi.unshare g1
    exact .inr ⟨m', G', rfl, e1, e2, g3⟩

/-- The operations ahead of others, in the text's order. -/
theorem exOps_pre {E : Env} {rd : Option Nat} {ops : Array Oper} {K : AS → Prop} {Q : Exit → Act → World → Prop} (hT : TabsOk P E) (rest : List Nat) (hQ : ∀ σ a w, St E σ a w → K σ → wpOpsIn (fenceR rd) 0 P ops Q rest a w) :
    ∀ (l : List Oper) (k : Nat) (σ : AS) (a : Act) (w : World), (∀ j o, l[j]? = some o → ops[k + j]? = some o) → exOps P ops l σ K → St E σ a w → wpOpsIn (fenceR rd) 0 P ops Q (List.range' k l.length ++ rest) a w
  | [], k, σ, a, w, _, h, hst => by
    unfold exOps at h
    simpa using hQ σ a w hst h
  | o :: r, k, σ, a, w, hk, h, hst => by
    have hok : ops[k]? = some o := by simpa using hk 0 o rfl
    have hr : ∀ j o', r[j]? = some o' → ops[k + 1 + j]? = some o' := fun j o' h' => by
      have := hk (j + 1) o' (by simpa using h')
      rwa [show k + (j + 1) = k + 1 + j by omega] at this
    rw [List.length_cons, List.range'_succ, List.cons_append, wpOpsIn]
    simp only [hok]
    unfold exOps exG kOps at h
    have cont : ∀ σ' a' w', St E σ' a' w' → exOps P ops r σ' K → wpOpsIn (fenceR rd) 0 P ops Q (List.range' (k + 1) r.length ++ rest) a' w' := fun σ' a' w' h1 h2 => exOps_pre hT rest hQ r (k + 1) σ' a' w' hr h2 h1
    split at h
    · rename_i hg
      have hw : Region.wanted o (yielded ops a.tmps) = true := by simp [Region.wanted, hg]
      rw [if_pos hw]
      exact Oper.in_of (exOp_nd h) (Oper.wp_mono (fun a' w' ⟨σ', h1, h2⟩ => cont σ' a' w' h1 h2) (exOp_ok hT h hst Q))
    · rename_i j want hg
      split at h
      · rename_i d hd
        obtain ⟨y1, y2⟩ := yielded_of hst hd
        split at h
        · rename_i b hb
          have h := gateW_iff.1 h
          have hy := y1 b hb
          by_cases hbw : b = want
          · have hw : Region.wanted o (yielded ops a.tmps) = true := by simp [Region.wanted, hg, hy, hbw]
            rw [if_pos hw]
            have h1 := h.1 hbw
            rw [put_same (hb.trans (by rw [hbw])) (by simp [undefA])] at h1
            exact Oper.in_of (exOp_nd h1) (Oper.wp_mono (fun a' w' ⟨σ', h1, h2⟩ => cont σ' a' w' h1 h2) (exOp_ok hT h1 hst Q))
          · have hbw2 : b = !want := by cases b <;> cases want <;> simp_all
            have hw : ¬ Region.wanted o (yielded ops a.tmps) = true := by simp [Region.wanted, hg, hy, hbw]
            rw [if_neg hw]
            have h2 := h.2 hbw2
            rw [put_same (hb.trans (by rw [hbw2])) (by simp [undefA])] at h2
            exact ⟨fun _ _ => trivial, cont _ _ _ (skip_st o.dst hst) h2⟩
        · rename_i vs hb
          have hy := y2 vs hb
          have hw : ¬ Region.wanted o (yielded ops a.tmps) = true := by simp [Region.wanted, hg, hy]
          rw [if_neg hw]
          exact ⟨fun _ _ => trivial, cont _ _ _ (skip_st o.dst hst) h⟩
        · exact h.elim
      · exact h.elim

/-- What a function value and arguments come to. -/
theorem call_enter {E : Env} {σ : AS} {a : Act} {w : World} {G : Gh} (hr : ∀ t, RepA G w (nth σ.s t) (a.tmps.getD t undef)) {f : Operand} {args : Array Operand} {tys : Array Nat} {k : Nat} {caps : List AV} (hf : fnOf (σ.ev P 0 f) = some (k, caps)) (hb : bodyOk P k = true) :
    ∃ us : List Value, a.eval f = .func (.func k) #[] us.toArray ∧ RepArgs G w caps us ∧ RepArgs G w (evs P σ tys args ++ caps) (args.toList.map a.eval ++ us) ∧
      callFunc k (args.toList.map a.eval ++ us).toArray = callFunc k (args.toList.map a.eval ++ us).toArray ∧ (callFunc k (args.toList.map a.eval ++ us).toArray).run P w = .ok (.enter k (args.toList.map a.eval ++ us).toArray) w := by
  have ev : ∀ ty x, RepA G w (σ.ev P ty x) (a.eval x) := fun ty x => ev_rep hr ty x
  have hev : RepArgs G w (evs P σ tys args) (args.toList.map a.eval) := by
    refine ⟨by simp [evs], fun i x v hx hv => ?_⟩
    unfold evs at hx
    rw [List.getElem?_map] at hx
    rw [List.getElem?_map] at hv
    rw [List.getElem?_zipIdx] at hx
    cases hq : args.toList[i]? with
    | none => rw [hq] at hv; cases hv
    | some y =>
      rw [hq] at hx hv
      simp only [Option.map_some, Option.some.injEq] at hx hv
      rw [← hx, ← hv]
      exact ev _ _
  have hfr := ev 0 f
  obtain ⟨us, hfv, hul, hus⟩ : ∃ us : List Value, a.eval f = .func (.func k) #[] us.toArray ∧ us.length = caps.length ∧ ∀ (i : Nat) (c : AV) (v : Value), caps[i]? = some c → us[i]? = some v → RepA G w c v := by
    generalize a.eval f = fv at hfr
    generalize σ.ev P 0 f = fa at hf hfr
    unfold fnOf at hf
    split at hf
    · cases hf
      cases hfr with
      | fn _ _ vs h1 h2 => exact ⟨vs, rfl, h1, h2⟩
    · rename_i f' xa xb
      split at hf
      · rename_i h1 h2
        cases hf
        cases hfr
        refine ⟨[], ?_, rfl, by simp⟩
        have e1 : xa = #[] := by apply Array.ext'; simpa using h1
        have e2 : xb = #[] := by apply Array.ext'; simpa using h2
        rw [e1, e2]
      · cases hf
    · cases hf
  have hall : RepArgs G w (evs P σ tys args ++ caps) (args.toList.map a.eval ++ us) := by
    refine ⟨by rw [List.length_append, List.length_append, hev.1, hul], fun i c v hc hv => ?_⟩
    by_cases hlt : i < (evs P σ tys args).length
    · rw [List.getElem?_append_left hlt] at hc
      rw [List.getElem?_append_left (by rw [hev.1]; exact hlt)] at hv
      exact hev.2 i c v hc hv
    · rw [List.getElem?_append_right (by omega)] at hc
      rw [List.getElem?_append_right (by rw [hev.1]; omega), hev.1] at hv
      exact hus _ c v hc hv
  refine ⟨us, hfv, ⟨hul, hus⟩, hall, rfl, ?_⟩
  unfold bodyOk at hb
  split at hb
  · rename_i fn hfn
    simp only [Bool.and_eq_true, bne_iff_ne, ne_eq] at hb
    obtain ⟨hb1, hb2⟩ := hb
    have hb3 : fn.body.isNone = false := by cases hbb : fn.body <;> simp_all
    have hb4 : (fn.name == "runtime.NumGoroutine") = false := by simpa using hb1
    simp only [callFunc, Sem.run_bind, Sem.run_pure, Result.andThen_ok, run_program, hfn, hb3, hb4, Bool.false_eq_true, if_false]
  · cases hb

/-- A region of which the last operation is a call that may panic. -/
theorem AW_callP {E : Env} {id : Nat} {ops : Array Oper} {pre : List Oper} {o : Oper} {f : Operand} {args : Array Operand} {tys : Array Nat} {Q : Exit → AS → Prop} {σ : AS} (hops : ops.toList = pre ++ [o]) (hg : o.guard = none) (ho : o.op = .call ⟨.value f, args, tys⟩)
    (h : exOps P ops pre σ fun τ => ∃ k caps R V X, fnOf (τ.ev P 0 f) = some (k, caps) ∧ bodyOk P k = true ∧ QCallP P k τ.m (evs P τ tys args ++ caps) R V X ∧ (∀ m' r, R m' r → Q .normal (AS.put ⟨τ.s, m'⟩ o.dst r)) ∧ (∀ m', X m' → Q (.panic (one V)) ⟨τ.s, m'⟩)) :
    AW P E (.region id ops false) Q σ := by
  unfold AW
  intro hT A a w hs hst
  refine wpIn_region ?_
  have hlen : ops.size = pre.length + 1 := by rw [← Array.length_toList, hops]; simp
  have hrange : List.range ops.size = List.range' 0 pre.length ++ [pre.length] := by
    rw [hlen, List.range_succ, List.range_eq_range']
  rw [hrange]
  refine exOps_pre (E := A) (hs.tabs hT) [pre.length] ?_ pre 0 σ a w (fun j o' h' => ?_) h hst
  rotate_left
  · have : (pre ++ [o])[j]? = some o' := by rw [List.getElem?_append_left (List.getElem?_eq_some_iff.1 h').1]; exact h'
    rw [← hops] at this
    simpa using this
  rintro τ a w ⟨G, hi, hsz, hd, hr⟩ ⟨k, caps, R, V, X, h1, h2, h3, h4, h5⟩
  have hlast : ops[pre.length]? = some o := by
    have : (pre ++ [o])[pre.length]? = some o := by simp
    rw [← hops] at this
    simpa using this
  rw [wpOpsIn]
  simp only [hlast]
  have hw : Region.wanted o (yielded ops a.tmps) = true := by simp [Region.wanted, hg]
  rw [if_pos hw]
  refine Oper.in_of (fun c hc => by rw [ho] at hc; cases hc) ?_
  obtain ⟨us, hfv, hcr, hall, _, hent⟩ := call_enter (E := A) (P := P) (args := args) (tys := tys) hr h1 h2
  have hexec : (execOp a.eval o).run P w = .ok (.enter k (args.toList.map a.eval ++ us).toArray) w := by
    have e1 : (#[] ++ args.map a.eval ++ us.toArray : Array Value) = (args.toList.map a.eval ++ us).toArray := by apply Array.ext'; simp
    obtain ⟨dst, op, ty, pos, after, guard⟩ := o
    simp only at ho
    subst ho
    simp only [execOp, resolve, Deferred.ofValue, hfv, Sem.run_bind, Sem.run_pure, Result.andThen_ok, invoke]
    rw [e1]
    exact hent
  unfold Oper.wp
  rw [hexec]
  show Calls P k _ w _
  refine (h3.use (hs.tabs hT) hi hall).mono ?_
  rintro e w' (⟨v, m2, r2, G2, rfl, g1, g2, g3, g4⟩ | ⟨m2, G2, rfl, g1, g2, g4⟩)
  · refine ⟨A, _, hs, St.step hsz hd hr g1 g2 g3, h4 _ _ g4⟩
  · exact ⟨A, ⟨τ.s, m2⟩, hs, ⟨G2, g2, hsz, hd, fun t => (hr t).ext g1⟩, h5 _ g4⟩

/-- A region of which the last operation is a panic. -/
theorem AW_panic {E : Env} {id : Nat} {ops : Array Oper} {pre : List Oper} {o : Oper} {x : Operand} {Q : Exit → AS → Prop} {σ : AS} {V : Value} {t : Nat} {v : Value} (hV : V = .iface t v) (hops : ops.toList = pre ++ [o]) (hg : o.guard = none) (ho : o.op = .panic x)
    (h : exOps P ops pre σ fun τ => (∀ G w u, RepA G w (τ.ev P 0 x) u → u = V) ∧ Q (.panic (one V)) τ) :
    AW P E (.region id ops false) Q σ := by
  subst hV
  unfold AW
  intro hT A a w hs hst
  refine wpIn_region ?_
  have hlen : ops.size = pre.length + 1 := by rw [← Array.length_toList, hops]; simp
  have hrange : List.range ops.size = List.range' 0 pre.length ++ [pre.length] := by
    rw [hlen, List.range_succ, List.range_eq_range']
  rw [hrange]
  refine exOps_pre (E := A) (hs.tabs hT) [pre.length] ?_ pre 0 σ a w (fun j o' h' => ?_) h hst
  rotate_left
  · have : (pre ++ [o])[j]? = some o' := by rw [List.getElem?_append_left (List.getElem?_eq_some_iff.1 h').1]; exact h'
    rw [← hops] at this
    simpa using this
  rintro τ a w ⟨G, hi, hsz, hd, hr⟩ ⟨h1, h2⟩
  have hlast : ops[pre.length]? = some o := by
    have : (pre ++ [o])[pre.length]? = some o := by simp
    rw [← hops] at this
    simpa using this
  rw [wpOpsIn]
  simp only [hlast]
  have hw : Region.wanted o (yielded ops a.tmps) = true := by simp [Region.wanted, hg]
  rw [if_pos hw]
  refine Oper.in_of (fun c hc => by rw [ho] at hc; cases hc) ?_
  have hx := h1 G w _ (ev_rep (P := P) hr 0 x)
  have hexec : (execOp a.eval o).run P w = .halt (.panic (.iface t v)) w := by
    obtain ⟨dst, op, ty, pos, after, guard⟩ := o
    simp only at ho
    subst ho
    simp only [execOp, hx, Instr.panic]
    rfl
  unfold Oper.wp
  rw [hexec]
  exact ⟨A, τ, hs, ⟨G, hi, hsz, hd, hr⟩, h2⟩

def bodyQP (P : Program) (rs : List ResultVar) (R : AH → AV → Prop) (V : Value) (X : AH → Prop) : Exit → AS → Prop
  | .normal, σ => resK P σ rs (kBodyW R σ.m)
  | .ret, σ => resK P σ rs (kBodyW R σ.m)
  | .panic ch, σ => ch = one V ∧ X σ.m
  | _, _ => False

theorem shut_marks {fn : Func} {tmps : Array Value} {R : Ending → World → Prop} {u : FrameMode} (hu : u ≠ .run) {ds : List Deferred} : ∀ (Ds : List Nat) (w : World), Ds.Nodup → (∀ D ∈ Ds, w.heap[D]? = some (.deferred (some []))) →
    LeavesInM Fence.wide 0 P fn tmps R ds u (shutW Ds w) → LeavesInM Fence.wide 0 P fn tmps R (Ds.map mark ++ ds) u w
  | [], w, _, _, h => h
  | D :: r, w, hn, hD, h => by
    obtain ⟨n1, n2⟩ := List.nodup_cons.1 hn
    have hd := hD D (List.mem_cons_self ..)
    refine ⟨hu, .inl ⟨D, _, rfl, run_takeDeferred hd, shut_marks hu r _ n2 (fun D' h' => ?_) h⟩⟩
    exact (World.putObj_heap_other (fun e => n1 (by rw [← e]; exact h'))).trans (hD D' (List.mem_cons_of_mem _ h'))

theorem callFunc_run {k : Nat} (hb : bodyOk P k = true) (vs : Array Value) (w : World) : (callFunc k vs).run P w = .ok (.enter k vs) w := by
  unfold bodyOk at hb
  split at hb
  · rename_i fn hfn
    simp only [Bool.and_eq_true, bne_iff_ne, ne_eq] at hb
    obtain ⟨hb1, hb2⟩ := hb
    have hb3 : fn.body.isNone = false := by cases hbb : fn.body <;> simp_all
    have hb4 : (fn.name == "runtime.NumGoroutine") = false := by simpa using hb1
    simp only [callFunc, Sem.run_bind, Sem.run_pure, Result.andThen_ok, run_program, hfn, hb3, hb4, Bool.false_eq_true, if_false]
  · cases hb

theorem results_run {fn : Func} {σ : AS} {w : World} {E : Env} {G : Gh} {tmps : Array Value} {K : List AV → Prop} (hi : Inv E G σ.m w) (hr : ∀ t, RepA G w (nth σ.s t) (tmps.getD t undef)) (h : resK P σ fn.results.toList K) :
    ∃ (us : List Value) (vs : List AV), (results fn tmps).run P w = .ok (if hs : us.toArray.size = 1 then us.toArray[0] else .tuple us.toArray) w ∧ RepArgs G w vs us ∧ K vs := by
  obtain ⟨us, rs, h1, h2, h3⟩ := resK_ok hi hr _ _ h
  refine ⟨us, rs, ?_, h2, h3⟩
  rw [← Array.toList_mapM, Sem.run_map] at h1
  generalize hX : Sem.run P (Array.mapM _ fn.results) w = Y at h1
  have h5 : Y = .ok us.toArray w := by
    cases Y with
    | ok a w2 =>
      simp only [Result.andThen_ok, Result.ok.injEq] at h1
      obtain ⟨e1, rfl⟩ := h1
      congr 1
      apply Array.ext'
      simp [e1]
    | halt x w2 => cases h1
  rw [h5] at hX
  unfold results
  rw [Sem.run_bind]
  erw [hX]
  rfl

/-- The body of a function that may write what it is handed, and may panic. -/
theorem QCallP.of_bodyR {f : Nat} {fn : Func} {c : Code} {m0 : AH} {as : List AV} {R : AH → AV → Prop} {V : Value} {X : AH → Prop} {n : Nat} {rs : List ResultVar} (hf : P.funcs[f]? = some fn) (hb : fn.body = some c) (hn : fn.ntmps = n) (hrs : fn.results.toList = rs)
    (h : ∀ E, E.top → AW P E c (bodyQP P rs R V X) ⟨as ++ List.replicate (n - as.length) undefA, m0⟩) : QCallP P f m0 as R V X := by
  subst hn hrs
  unfold QCallP
  intro E G0 w vs hT hw0 hg0 hInv hrep
  refine (callsIn_wide (n := 0)).1 (callsIn_of_wp_marks hf hb trivial ?_ rfl)
  have hw := h E.trim ⟨rfl, rfl, E.trim_nofl⟩
  unfold AW at hw
  refine wpIn_mono (hw hT.trim E.trim _ _ (Sub.self rfl) (enter_st (n := fn.ntmps) rfl hInv.trim hrep)) ?_
  rintro e a' w' ⟨A, σ, hs, ⟨G, hi, hsz, hd, hr⟩, hq⟩
  obtain ⟨Ds, d1, d2, d3, d4, _⟩ := hs.lk
  have d2 : A.lk = Ds.map shut := by rw [d2]; exact List.append_nil _
  have hmem : ∀ D ∈ Ds, shut D ∈ A.lk := fun D hD => by rw [d2]; exact List.mem_map_of_mem hD
  obtain ⟨g1, g2⟩ := shutW_inv Ds w' (hs.inv _ _ _ hi.free) (fun D hD => ⟨d4 D hD, hs.free (hmem D hD), (hs.there hi (hmem D hD)).2.2⟩)
  have last : resK P σ fn.results.toList (kBodyW R σ.m) → LeavesInM Fence.wide 0 P fn a'.tmps (endP E R V X) a'.defers .returning w' := by
    intro hk
    rw [hd, d1]
    refine shut_marks (by simp) Ds w' d3 (fun D hD => (hs.there hi (hmem D hD)).2.1) ?_
    have hr2 : ∀ t, RepA (G.free A) (shutW Ds w') (nth σ.s t) (a'.tmps.getD t undef) := fun t => ((hr t).ext (G.free_ext A w')).ext g2
    obtain ⟨us, vs2, h1, h2, h3⟩ := results_run g1 hr2 hk
    exact ⟨_, h1, .inl ⟨_, _, _, _, rfl, g1.untrim, resV_rep h2, h3⟩⟩
  cases e with
  | normal => exact last hq
  | ret => exact last hq
  | panic ch =>
    obtain ⟨rfl, hx⟩ := hq
    show LeavesInM Fence.wide 0 P fn a'.tmps (endP E R V X) a'.defers _ w'
    rw [hd, d1]
    refine shut_marks (by simp) Ds w' d3 (fun D hD => (hs.there hi (hmem D hD)).2.1) ?_
    exact .inr ⟨_, _, rfl, g1.untrim, hx⟩
  | _ => exact hq.elim

/-- As of_bodyR, in steps. -/
theorem QCallP.of_body {f : Nat} {fn : Func} {c : Code} {m0 : AH} {as : List AV} {R : AH → AV → Prop} {V : Value} {X : AH → Prop} {n : Nat} {rs : List ResultVar} (hf : P.funcs[f]? = some fn) (hb : fn.body = some c) (hn : fn.ntmps = n) (hrs : fn.results.toList = rs)
    (h : ∀ E, exC P E c ⟨as ++ List.replicate (n - as.length) undefA, m0⟩ (bodyQP P rs R V X)) : QCallP P f m0 as R V X := QCallP.of_bodyR hf hb hn hrs fun E _ => exC_ok c _ _ (h E)

/-- A walk in which the environment stays. -/
def exC0 (P : Program) : Code → AS → (Exit → AS → Prop) → Prop
  | .skip, σ, Q => Q .normal σ
  | .region _ ops draw, σ, Q => draw = false ∧ exOps P ops ops.toList σ (Q .normal)
  | .seq a b, σ, Q => exC0 P a σ (thenQ (fun τ => exC0 P b τ Q) Q)
  | .cond c a b, σ, Q => match σ.ev P 0 c with
    | .bool t => (t = true → exC0 P a σ Q) ∧ (t = false → exC0 P b σ Q)
    | _ => False
  | .ret, σ, Q => Q .ret σ
  | _, _, _ => False

theorem exC0_ok {E : Env} (hT : TabsOk P E) : ∀ (c : Code) (σ : AS) (Q : Exit → AS → Prop) (a : Act) (w : World), exC0 P c σ Q → St E σ a w → wpR P none c (Lift0 E Q) a w
  | .skip, σ, Q, a, w, h, hst => wpIn_skip ⟨σ, hst, h⟩
  | .region id ops draw, σ, Q, a, w, h, hst => by
    obtain ⟨rfl, h⟩ := h
    refine wpIn_region ?_
    have := exOps_ok (P := P) (E := E) (rd := none) (ops := ops) (K := Q .normal) (Q := Lift0 E Q) hT (fun σ' a' w' h1 h2 => ⟨σ', h1, h2⟩) ops.toList 0 σ a w (by simp) h hst
    rwa [Array.length_toList, ← List.range_eq_range'] at this
  | .seq x y, σ, Q, a, w, h, hst => by
    refine wpIn_seq (wpIn_mono (exC0_ok hT x σ _ a w h hst) ?_)
    rintro e a' w' ⟨σ', h1, h2⟩
    cases e with
    | normal => exact exC0_ok hT y σ' Q a' w' h2 h1
    | _ => exact ⟨σ', h1, h2⟩
  | .cond c x y, σ, Q, a, w, h, hst => by
    simp only [exC0] at h
    split at h
    · rename_i t ht
      obtain ⟨G, hi, hsz, hd, hr⟩ := hst
      have hc := ev_rep (P := P) hr 0 c
      rw [ht] at hc
      have hv : a.eval c = .bool t := by
        generalize a.eval c = v at hc
        cases hc; rfl
      have hst : St E σ a w := ⟨G, hi, hsz, hd, hr⟩
      exact wpIn_cond_split hv (fun e => exC0_ok hT x σ Q a w (h.1 e) hst) (fun e => exC0_ok hT y σ Q a w (h.2 e) hst)
    · exact h.elim
  | .ret, σ, Q, a, w, h, hst => wpIn_ret ⟨σ, hst, h⟩
  | .block .., σ, Q, a, w, h, hst => h.elim
  | .exit .., σ, Q, a, w, h, hst => h.elim
  | .loop .., σ, Q, a, w, h, hst => h.elim
  | .rangeFunc .., σ, Q, a, w, h, hst => h.elim
  | .goto .., σ, Q, a, w, h, hst => h.elim
  | .scope .., σ, Q, a, w, h, hst => h.elim

/-- What a deferred call comes to, in a frame of a mode. -/
def DCall (P : Program) (f : Nat) (m0 : AH) (as : List AV) (u u' : FrameMode) (R : AH → Prop) : Prop :=
  ∀ (E : Env) (G : Gh) (w : World) (vs : List Value), TabsOk P E → E.w0 = w → E.g0 = G → Inv E G m0 w → RepArgs G w as vs →
    CallsDIn Fence.wide 0 P f vs.toArray u w fun e v' w' => e = .returned (.tuple #[]) ∧ v' = u' ∧ ∃ G' m', Inv E G' m' w' ∧ R m'

theorem DCall.use {E : Env} {k : Nat} {args : List AV} {m : AH} {u u' : FrameMode} {R : AH → Prop} {G : Gh} {w : World} {vs : List Value} (hT : TabsOk P E) (h : DCall P k m args u u' R) (hi : Inv E G m w) (hr : RepArgs G w args vs) :
    CallsDIn Fence.wide 0 P k vs.toArray u w fun e v' w' => e = .returned (.tuple #[]) ∧ v' = u' ∧ ∃ G' m', Ext G w G' w' ∧ Inv E G' m' w' ∧ R m' := by
  unfold DCall at h
  refine (h (shareE E G w) G w vs (hT.share hi) rfl rfl hi.share hr).mono ?_
  rintro e v' w' ⟨rfl, rfl, G', m', g1, g3⟩
  obtain ⟨e1, e2⟩ := hi.unshare g1
  exact ⟨rfl, rfl, G', m', e1, e2, g3⟩

/-- What a recovering function finds. -/
inductive Found : FrameMode → FrameMode → AV → Prop
  | none : Found .returning .returning (.raw .nilIface)
  | some (x : AV) (V : Value) : (∀ G w, RepA G w x V) → Found (.panicking (one V)) (.panicking [{ v := V, recovered := true }]) x

def bodyQ0 (R : AH → Prop) : Exit → AS → Prop
  | .normal, σ => R σ.m
  | .ret, σ => R σ.m
  | _, _ => False

/-- The body of a function that is deferred and asks what it finds. -/
theorem DCall.of_body {f : Nat} {fn : Func} {m0 : AH} {as : List AV} {u u' : FrameMode} {x : AV} {R : AH → Prop} {n id d d2 : Nat} {ops : Array Oper} {o1 o2 : Oper} {rest : Code} (hF : Found u u' x) (hf : P.funcs[f]? = some fn) (hb : fn.body = some (.seq (.region id ops false) rest)) (hn : fn.ntmps = n) (hrs : fn.results.toList = [])
    (hops : ops = #[o1, o2]) (h1 : o1.op = .call ⟨.builtin .recover, #[], #[]⟩) (h1d : o1.dst = some d) (h1g : o1.guard = none) (h2 : o2.op = .assign (.tmp d)) (h2d : o2.dst = some d2) (h2g : o2.guard = none) (hd : d < n)
    (h : exC0 P rest (((⟨as ++ List.replicate (n - as.length) undefA, m0⟩ : AS).put (some d) x).put (some d2) x) (bodyQ0 R)) : DCall P f m0 as u u' R := by
  subst hn hops
  unfold DCall
  intro E G0 w vs hT hw0 hg0 hInv hrep
  refine callsDIn_of_wpSIn hf hb trivial fun c0 cs hu => ?_
  obtain ⟨xv, cs', hrec, hcs, hrepx⟩ : ∃ (xv : Value) (cs' : List Frame), (recoverD (c0 :: cs) = some (xv, cs') ∨ (recoverD (c0 :: cs) = none ∧ xv = .nilIface ∧ cs' = c0 :: cs)) ∧ cs' = { c0 with mode := u' } :: cs ∧ ∀ G w, RepA G w x xv := by
    cases hF with
    | none =>
      refine ⟨.nilIface, c0 :: cs, .inr ⟨by simp [recoverD, hu], rfl, rfl⟩, ?_, fun _ _ => .raw _⟩
      congr 1
      rw [← hu]
    | some x V hx =>
      refine ⟨V, _, .inl ?_, rfl, hx⟩
      simp only [recoverD, hu, one]
  obtain ⟨G, hi, hsz, hd', hr⟩ := enter_st (E := E.trim) (n := fn.ntmps) rfl hInv.trim hrep
  have hst1 := St.step hsz hd' hr (Ext.refl G w) hi (dst := some d) (hrepx G w)
  obtain ⟨G1, hi1, hsz1, hd1, hr1⟩ := hst1
  have hst2 := St.step hsz1 hd1 hr1 (Ext.refl G1 w) hi1 (dst := some d2) (hrepx G1 w)
  refine wpSIn_seq (wpSIn_region ?_)
  generalize ha : ({ tmps := vs.toArray ++ Array.replicate (fn.ntmps - vs.toArray.size) undef, defers := [] } : Act) = a0 at *
  have hsize : d < a0.tmps.size := by
    rw [← ha]; simp; omega
  have e1 : (execOp a0.eval o1).run P w = .ok .recover w := by
    obtain ⟨dst, op, ty, pos, after, guard⟩ := o1
    simp only at h1
    subst h1
    simp only [execOp, resolve, Sem.run_bind, Sem.run_pure, Result.andThen_ok, invoke]
    rfl
  have e2 : (execOp (a0.put (some d) xv).eval o2).run P w = .ok (.value xv) w := by
    obtain ⟨dst, op, ty, pos, after, guard⟩ := o2
    simp only at h2
    subst h2
    have : (a0.put (some d) xv).eval (.tmp d) = xv := by
      simp [Act.eval, Act.put, hsize]
    simp only [execOp, this]
    rfl
  have w1 : Region.wanted o1 (yielded #[o1, o2] a0.tmps) = true := by simp [Region.wanted, h1g]
  have w2 : Region.wanted o2 (yielded #[o1, o2] (a0.put (some d) xv).tmps) = true := by simp [Region.wanted, h2g]
  have fin : ∀ (a' : Act) (w' : World), ∀ σ, St E.trim σ a' w' → R σ.m → a'.defers = [] ∧ ∃ v', cs' = { c0 with mode := v' } :: cs ∧ ∃ v, (results fn a'.tmps).run P w' = .ok v w' ∧ (Ending.returned v = .returned (.tuple #[]) ∧ v' = u' ∧ ∃ G' m', Inv E G' m' w' ∧ R m') := by
    rintro a' w' σ ⟨G', hi', hsz', hd', hr'⟩ hR
    obtain ⟨us, vs2, k1, k2, k3⟩ := results_run (P := P) (fn := fn) (K := fun l => l = []) hi' hr' (by rw [hrs]; exact rfl)
    subst k3
    obtain rfl : us = [] := List.eq_nil_of_length_eq_zero k2.1
    exact ⟨hd', u', hcs, _, k1, rfl, rfl, G', σ.m, hi'.untrim, hR⟩
  have hgo : ∀ Q, Q = bodyPostS P fn c0 cs (fun e v' w' => e = Ending.returned (Value.tuple #[]) ∧ v' = u' ∧ ∃ G' m', Inv E G' m' w' ∧ R m') → wpOpsSIn Fence.wide 0 P #[o1, o2] (Exit.thenS (rest.wpSIn Fence.wide 0 P Q) Q) [1] (a0.put (some d) xv) cs' w := by
    rintro Q rfl
    rw [wpOpsSIn]
    simp only [List.getElem?_toArray, List.getElem?_cons_succ, List.getElem?_cons_zero]
    refine ⟨fun _ _ => trivial, ?_⟩
    rw [if_pos w2, e2, h2d]
    simp only [wpOpsSIn, Exit.thenS]
    refine wpSIn_of_wpIn rfl (wpIn_mono (exC0_ok (E := E.trim) hT.trim rest _ _ _ _ h hst2) ?_)
    rintro e a' w' ⟨σ, hs, hq⟩
    cases e with
    | normal => exact fin a' w' σ hs hq
    | ret => exact fin a' w' σ hs hq
    | _ => exact hq.elim
  show wpOpsSIn Fence.wide 0 P #[o1, o2] _ [0, 1] a0 (c0 :: cs) w
  rw [wpOpsSIn]
  simp only [List.getElem?_toArray, List.getElem?_cons_zero]
  refine ⟨fun _ _ => trivial, ?_⟩
  rw [if_pos w1, e1, h1d]
  rcases hrec with hrec | ⟨hrec, rfl, rfl⟩
  · simp only [hrec]
    exact hgo _ rfl
  · simp only [hrec]
    exact hgo _ rfl

/-- How a body ends that has deferred a function. -/
def bodyQD (P : Program) (rs : List ResultVar) (k : Nat) (caps : List AV) (R : AH → AV → Prop) : Exit → AS → Prop
  | .normal, σ => ∃ R1, DCall P k σ.m caps .returning .returning R1 ∧ ∀ m', R1 m' → resK P ⟨σ.s, m'⟩ rs (kBodyW R m')
  | .ret, σ => ∃ R1, DCall P k σ.m caps .returning .returning R1 ∧ ∀ m', R1 m' → resK P ⟨σ.s, m'⟩ rs (kBodyW R m')
  | .panic ch, σ => ∃ V R1, ch = one V ∧ DCall P k σ.m caps (.panicking (one V)) (.panicking [{ v := V, recovered := true }]) R1 ∧ ∀ m', R1 m' → resK P ⟨σ.s, m'⟩ rs (kBodyW R m')
  | _, _ => False

/-- The body of a function that may write what it is handed, and defers a function. -/
theorem QCall.of_bodyD {f : Nat} {fn : Func} {m0 : AH} {as : List AV} {R : AH → AV → Prop} {n i0 i1 : Nat} {ops0 ops1 : Array Oper} {mk df : Oper} {fv : Operand} {rest : Code} {rs : List ResultVar} (hf : P.funcs[f]? = some fn) (hb : fn.body = some (.seq (.region i0 ops0 false) (.seq (.region i1 ops1 false) rest))) (hn : fn.ntmps = n) (hrs : fn.results.toList = rs)
    (hops : ops1 = #[mk, df]) (hdf : df.op = .defer ⟨.value fv, #[], #[]⟩) (hdg : df.guard = none) (hdd : df.dst = none)
    (h : exOps P ops0 ops0.toList ⟨as ++ List.replicate (n - as.length) undefA, m0⟩ fun σ1 => exOps P ops1 [mk] σ1 fun σ2 => ∃ k caps, fnOf (σ2.ev P 0 fv) = some (k, caps) ∧ bodyOk P k = true ∧ ∀ E, AW P E rest (bodyQD P rs k caps R) σ2) : QCall P f m0 as R := by
  subst hn hrs hops
  unfold QCall
  intro E G0 w vs hT hw0 hg0 hInv hrep
  refine (callsIn_wide (n := 0)).1 (callsIn_of_wp_marks hf hb trivial ?_ rfl)
  have hT1 := hT.trim
  refine wpIn_seq (wpIn_region ?_)
  have h0 := exOps_ok (P := P) (E := E.trim) (rd := none) (ops := ops0) (Q := Exit.then ((Code.region i1 #[mk, df] false).seq rest |>.wpIn (fenceR none) 0 P (bodyPostM Fence.wide 0 P fn fun e w' => ∃ v r G' m', e = .returned v ∧ Inv E G' m' w' ∧ RepA G' w' r v ∧ R m' r)) (bodyPostM Fence.wide 0 P fn fun e w' => ∃ v r G' m', e = .returned v ∧ Inv E G' m' w' ∧ RepA G' w' r v ∧ R m' r)) hT1 ?_ ops0.toList 0 _ _ w (by simp) h (enter_st (n := fn.ntmps) rfl hInv.trim hrep)
  · rwa [Array.length_toList, ← List.range_eq_range'] at h0
  intro σ1 a1 w1 hst1 h1
  refine wpIn_seq (wpIn_region ?_)
  have hrange : List.range (#[mk, df] : Array Oper).size = List.range' 0 [mk].length ++ [1] := rfl
  rw [hrange]
  refine exOps_pre (E := E.trim) hT1 [1] ?_ [mk] 0 σ1 a1 w1 (fun j o' h' => ?_) h1 hst1
  rotate_left
  · cases j with
    | zero => simpa using h'
    | succ j => simp at h'
  rintro σ2 a2 w2 ⟨G2, hi2, hsz2, hd2, hr2⟩ ⟨k, caps, hfn, hbk, hrest⟩
  obtain ⟨us, hfv, hcr, _, _, _⟩ := call_enter (E := E.trim) (P := P) (args := #[]) (tys := #[]) hr2 hfn hbk
  have hexec : (execOp a2.eval df).run P w2 = .ok (.defer { target := .fn (.func k) us.toArray, args := #[] }) w2 := by
    obtain ⟨dst, op, ty, pos, after, guard⟩ := df
    simp only at hdf
    subst hdf
    simp only [execOp, resolve, Deferred.ofValue, hfv, Sem.run_bind, Sem.run_pure, Result.andThen_ok]
    simp
  have hw : Region.wanted df (yielded #[mk, df] a2.tmps) = true := by simp [Region.wanted, hdg]
  rw [wpOpsIn]
  simp only [List.getElem?_toArray, List.getElem?_cons_succ, List.getElem?_cons_zero]
  rw [if_pos hw]
  refine ⟨fun _ _ => trivial, ?_⟩
  show df.uponIn (fenceR none) 0 P a2 _ _ ((execOp a2.eval df).run P w2)
  rw [hexec, Oper.uponIn_defer, hdd]
  show Code.wpIn (fenceR none) 0 P rest _ { a2 with defers := { target := .fn (.func k) us.toArray, args := #[] } :: a2.defers } w2
  generalize hdef : ({ target := .fn (.func k) us.toArray, args := #[] } : Deferred) = d
  have hds : a2.defers = [] := hd2
  have hTd : TabsOk P ((E.trim.at G2 w2 []).frame none [d] []) := TabsOk.frame (fun w' k => hT1 w' (k.unatX hi2)) none [d] []
  have hId : Inv ((E.trim.at G2 w2 []).frame none [d] []) G2 σ2.m w2 := (hi2.atX [] _).frame none [d] []
  have hr := hrest ((E.trim.at G2 w2 []).frame none [d] [])
  unfold AW at hr
  refine wpIn_mono (hr hTd _ _ _ (Sub.self rfl) ⟨G2, hId, hsz2, by rw [hds]; rfl, hr2⟩) ?_
  rintro e a' w' ⟨A, σ, hs, ⟨G, hi, hsz, hd, hr⟩, hq⟩
  obtain ⟨Ds, d1, d2, d3, d4, _⟩ := hs.lk
  have d1 : A.ds = Ds.map mark ++ [d] := d1
  have d2 : A.lk = Ds.map shut := by rw [d2]; exact List.append_nil _
  have hmem : ∀ D ∈ Ds, shut D ∈ A.lk := fun D hD => by rw [d2]; exact List.mem_map_of_mem hD
  obtain ⟨g1, g2⟩ := shutW_inv Ds w' (hs.inv _ _ _ hi.free) (fun D hD => ⟨d4 D hD, hs.free (hmem D hD), (hs.there hi (hmem D hD)).2.2⟩)
  have hr3 : ∀ t, RepA (G.free A) (shutW Ds w') (nth σ.s t) (a'.tmps.getD t undef) := fun t => ((hr t).ext (G.free_ext A w')).ext g2
  have hcr2 : RepArgs (G.free A) (shutW Ds w') caps us := ⟨hcr.1, fun i c v hc hv => (hcr.2 i c v hc hv).ext g1.ext⟩
  have key : ∀ (u u' : FrameMode) (R1 : AH → Prop), u ≠ .run → settle u' = .returning → DCall P k σ.m caps u u' R1 → (∀ m', R1 m' → resK P ⟨σ.s, m'⟩ fn.results.toList (kBodyW R m')) →
      LeavesInM Fence.wide 0 P fn a'.tmps (fun e w' => ∃ v r G' m', e = .returned v ∧ Inv E G' m' w' ∧ RepA G' w' r v ∧ R m' r) a'.defers u w' := by
    intro u u' R1 hu hse hcall hres
    rw [hd, d1]
    refine shut_marks hu Ds w' d3 (fun D hD => (hs.there hi (hmem D hD)).2.1) ?_
    subst hdef
    refine ⟨hu, .inr ⟨by simp [Fence.wide], .func k, us.toArray, k, us.toArray, rfl, ?_, fun _ _ => trivial, (hcall.use hTd g1 hcr2).mono ?_⟩⟩
    · show (callFunc k (#[] ++ us.toArray)).run P (shutW Ds w') = _
      rw [Array.empty_append]
      exact callFunc_run hbk _ _
    · rintro e v' w3 ⟨rfl, rfl, G', m', x1, x2, x3⟩
      show LeavesInM Fence.wide 0 P fn a'.tmps _ [] (settle v') w3
      rw [hse]
      obtain ⟨us2, vs2, k1, k2, k3⟩ := results_run (fn := fn) (σ := ⟨σ.s, m'⟩) x2 (fun t => (hr3 t).ext x1) (hres m' x3)
      exact ⟨_, k1, _, _, G', m', rfl, (hi2.unatX x2.unframe).untrim, resV_rep k2, k3⟩
  cases e with
  | normal =>
    obtain ⟨R1, q1, q2⟩ := hq
    exact key _ _ R1 (by simp) rfl q1 q2
  | ret =>
    obtain ⟨R1, q1, q2⟩ := hq
    exact key _ _ R1 (by simp) rfl q1 q2
  | panic ch =>
    obtain ⟨V, R1, rfl, q1, q2⟩ := hq
    exact key _ _ R1 (by simp) rfl q1 q2
  | _ => exact hq.elim

/-- A walk in steps, as exC; two regions are left for lemmas of their own. -/
def exB (P : Program) (E : Env) (k1 k2 : Nat) : Code → AS → (Exit → AS → Prop) → Prop
  | .skip, σ, Q => Q .normal σ
  | .region id ops draw, σ, Q => match draw, id == k1, id == k2 with
    | false, false, false => exOps P ops ops.toList σ (Q .normal)
    | _, _, _ => AW P E (.region id ops draw) Q σ
  | .seq a b, σ, Q => exB P E k1 k2 a σ (thenQ (kCode (exB P E k1 k2 b) Q) Q)
  | .cond c a b, σ, Q => condK (σ.ev P 0 c) (exB P E k1 k2 a σ Q) (exB P E k1 k2 b σ Q)
  | .block id c, σ, Q => exB P E k1 k2 c σ (blockQ id Q)
  | .exit id, σ, Q => Q (.exit id) σ
  | .ret, σ, Q => Q .ret σ
  | c, σ, Q => AW P E c Q σ

theorem exB_ok {E : Env} {k1 k2 : Nat} : ∀ (c : Code) (σ : AS) (Q : Exit → AS → Prop), exB P E k1 k2 c σ Q → AW P E c Q σ
  | .skip, σ, Q, h => by unfold AW; exact fun _ A a w hs hst => wpIn_skip ⟨A, σ, hs, hst, h⟩
  | .region id ops draw, σ, Q, h => by
    simp only [exB] at h
    split at h
    · refine exC_ok _ _ _ ?_
      rw [exC_region]
      exact h
    · exact h
  | .seq x y, σ, Q, h => by
    have hx := exB_ok x σ _ h
    unfold AW at hx ⊢
    intro hT A a w hs hst
    refine wpIn_seq (wpIn_mono (hx hT A a w hs hst) ?_)
    rintro e a' w' ⟨A', σ', hs', h1, h2⟩
    cases e with
    | normal =>
      have hy := exB_ok y σ' Q h2
      unfold AW at hy
      exact hy hT A' a' w' hs' h1
    | _ => exact ⟨A', σ', hs', h1, h2⟩
  | .cond c x y, σ, Q, h => by
    simp only [exB] at h
    unfold condK at h
    split at h
    · rename_i t ht
      have hx : t = true → AW P E x Q σ := fun e => exB_ok x σ Q (h.1 e)
      have hy : t = false → AW P E y Q σ := fun e => exB_ok y σ Q (h.2 e)
      unfold AW at hx hy ⊢
      intro hT A a w hs hst
      obtain ⟨G, hi, hsz, hd, hr⟩ := hst
      have hc := ev_rep (P := P) hr 0 c
      rw [ht] at hc
      have hv : a.eval c = .bool t := by
        generalize a.eval c = v at hc
        cases hc; rfl
      have hst : St A σ a w := ⟨G, hi, hsz, hd, hr⟩
      exact wpIn_cond_split hv (fun e => hx e hT A a w hs hst) (fun e => hy e hT A a w hs hst)
    · exact h.elim
  | .block id c, σ, Q, h => by
    have hc := exB_ok c σ _ h
    unfold AW at hc ⊢
    intro hT A a w hs hst
    refine wpIn_block (wpIn_mono (hc hT A a w hs hst) ?_)
    rintro e a' w' ⟨A', σ', hs', h1, h2⟩
    cases e with
    | exit id' =>
      simp only [blockQ] at h2
      simp only [Exit.inBlock]
      by_cases hid : id' = id
      · rw [if_pos hid] at h2 ⊢; exact ⟨A', σ', hs', h1, h2⟩
      · rw [if_neg hid] at h2 ⊢; exact ⟨A', σ', hs', h1, h2⟩
    | _ => exact ⟨A', σ', hs', h1, h2⟩
  | .exit id, σ, Q, h => by unfold AW; exact fun _ A a w hs hst => wpIn_exit ⟨A, σ, hs, hst, h⟩
  | .ret, σ, Q, h => by unfold AW; exact fun _ A a w hs hst => wpIn_ret ⟨A, σ, hs, hst, h⟩
  | .loop c, σ, Q, h => h
  | .rangeFunc .., σ, Q, h => h
  | .scope .., σ, Q, h => h
  | .goto .., σ, Q, h => h
  | .refuse .., σ, Q, h => h
  | .label .., σ, Q, h => h

section
variable {E : Env} {k1 k2 : Nat} {σ : AS} {Q : Exit → AS → Prop}
@[congr] theorem exB_congr {c : Code} {σ' : AS} (h : σ = σ') : exB P E k1 k2 c σ Q = exB P E k1 k2 c σ' Q := by rw [h]
@[go_sem] theorem exB_skip : exB P E k1 k2 .skip σ Q = Q .normal σ := (rfl)
@[go_sem] theorem exB_bad1 {ops : Array Oper} : exB P E k1 k2 (.region k1 ops false) σ Q = AW P E (.region k1 ops false) Q σ := by
  simp only [exB, beq_self_eq_true]
@[go_sem] theorem exB_bad2 {ops : Array Oper} : exB P E k1 k2 (.region k2 ops false) σ Q = AW P E (.region k2 ops false) Q σ := by
  simp only [exB, beq_self_eq_true]
  split
  · rename_i h; cases h
  · rfl
@[go_sem] theorem exB_region {id : Nat} {ops : Array Oper} (h1 : (id == k1) = false) (h2 : (id == k2) = false) : exB P E k1 k2 (.region id ops false) σ Q = exOps P ops ops.toList σ (Q .normal) := by
  simp only [exB, h1, h2]
@[go_sem] theorem exB_draw {id : Nat} {ops : Array Oper} : exB P E k1 k2 (.region id ops true) σ Q = AW P E (.region id ops true) Q σ := (rfl)
@[go_sem] theorem exB_seq {a b : Code} : exB P E k1 k2 (.seq a b) σ Q = exB P E k1 k2 a σ (thenQ (kCode (exB P E k1 k2 b) Q) Q) := (rfl)
@[go_sem] theorem exB_block {id : Nat} {c : Code} : exB P E k1 k2 (.block id c) σ Q = exB P E k1 k2 c σ (blockQ id Q) := (rfl)
@[go_sem] theorem exB_exit {id : Nat} : exB P E k1 k2 (.exit id) σ Q = Q (.exit id) σ := (rfl)
@[go_sem] theorem exB_ret : exB P E k1 k2 .ret σ Q = Q .ret σ := (rfl)
@[go_sem] theorem exB_loop {c : Code} : exB P E k1 k2 (.loop c) σ Q = AW P E (.loop c) Q σ := (rfl)
@[go_sem] theorem exB_cond {c : Operand} {a b : Code} : exB P E k1 k2 (.cond c a b) σ Q = condK (σ.ev P 0 c) (exB P E k1 k2 a σ Q) (exB P E k1 k2 b σ Q) := (rfl)
@[go_sem] theorem thenQ_panic {f : AS → Prop} {ch : List PanicEntry} : thenQ f Q (.panic ch) σ = Q (.panic ch) σ := (rfl)
@[go_sem] theorem blockQ_panic {id : Nat} {ch : List PanicEntry} : blockQ id Q (.panic ch) σ = Q (.panic ch) σ := (rfl)
@[go_sem] theorem bodyQP_normal {rs : List ResultVar} {R : AH → AV → Prop} {V : Value} {X : AH → Prop} : bodyQP P rs R V X .normal σ = resK P σ rs (kBodyW R σ.m) := (rfl)
@[go_sem] theorem bodyQP_ret {rs : List ResultVar} {R : AH → AV → Prop} {V : Value} {X : AH → Prop} : bodyQP P rs R V X .ret σ = resK P σ rs (kBodyW R σ.m) := (rfl)
@[go_sem] theorem bodyQP_panic {rs : List ResultVar} {R : AH → AV → Prop} {V : Value} {X : AH → Prop} {ch : List PanicEntry} : bodyQP P rs R V X (.panic ch) σ = (ch = one V ∧ X σ.m) := (rfl)
@[congr] theorem bodyQP_congr {rs : List ResultVar} {R : AH → AV → Prop} {V : Value} {X : AH → Prop} {e : Exit} {σ' : AS} (h : σ = σ') : bodyQP P rs R V X e σ = bodyQP P rs R V X e σ' := by rw [h]
@[go_sem] theorem exC0_skip : exC0 P .skip σ Q = Q .normal σ := (rfl)
@[go_sem] theorem exC0_region {id : Nat} {ops : Array Oper} : exC0 P (.region id ops false) σ Q = exOps P ops ops.toList σ (Q .normal) := by
  simp [exC0]
@[go_sem] theorem exC0_seq {a b : Code} : exC0 P (.seq a b) σ Q = exC0 P a σ (thenQ (kCode (exC0 P b) Q) Q) := (rfl)
@[go_sem] theorem exC0_ret : exC0 P .ret σ Q = Q .ret σ := (rfl)
theorem exC0_cond' {c : Operand} {a b : Code} : exC0 P (.cond c a b) σ Q = condK (σ.ev P 0 c) (exC0 P a σ Q) (exC0 P b σ Q) := by
  simp only [exC0]
  generalize σ.ev P 0 c = v
  cases v <;> rfl
attribute [go_sem] exC0_cond'
@[congr] theorem exC0_congr {c : Code} {σ' : AS} (h : σ = σ') : exC0 P c σ Q = exC0 P c σ' Q := by rw [h]
@[go_sem] theorem bodyQ0_normal {R : AH → Prop} : bodyQ0 R .normal σ = R σ.m := (rfl)
@[go_sem] theorem bodyQ0_ret {R : AH → Prop} : bodyQ0 R .ret σ = R σ.m := (rfl)
@[congr] theorem bodyQ0_congr {R : AH → Prop} {e : Exit} {σ' : AS} (h : σ = σ') : bodyQ0 R e σ = bodyQ0 R e σ' := by rw [h]
end

/-- As AW_loopH, by exB. -/
theorem AW_loopB {E : Env} {k1 k2 : Nat} {c : Code} {Q : Exit → AS → Prop} {s0 : List AV} {m0 : AH} {α : Type} (W : List Nat) (J : α → (Nat → AV) → AH → Prop) (μ : α → Nat) (x0 : α) (h0 : J x0 (nth s0) m0)
    (round : ∀ x ρ m, J x ρ m → ∀ Q' : Exit → AS → Prop, (∀ σ, Q' .normal σ = LoopEnd s0 W J μ x σ) → (∀ σ, Q' .ret σ = Q .ret σ) → (∀ id σ, Q' (.exit id) σ = Q (.exit id) σ) → (∀ ch σ, Q' (.panic ch) σ = Q (.panic ch) σ) → exB P E k1 k2 c ⟨mask s0 W ρ, m⟩ Q') : AW P E (.loop c) Q ⟨s0, m0⟩ := by
  refine AW_loop (fun x σ => σ.s = mask s0 W (nth σ.s) ∧ J x (nth σ.s) σ.m) μ x0 ⟨(mask_self W s0).symm, h0⟩ ?_
  rintro x ⟨s, m⟩ ⟨h1, h2⟩
  simp only at h1 h2
  have := round x (nth s) m h2 (thenQ (LoopEnd s0 W J μ x) Q) (fun _ => rfl) (fun _ => rfl) (fun _ _ => rfl) (fun _ _ => rfl)
  rw [← h1] at this
  refine AW_mono (exB_ok c _ _ this) ?_
  intro e σ h
  cases e with
  | normal =>
    obtain ⟨h3, y, h4, h5⟩ := h
    exact ⟨y, ⟨h3, h4⟩, h5⟩
  | _ => exact h

theorem dropLast_of {ops : Array Oper} {o : Oper} (h : ops.toList.getLast? = some o) : ops.toList = ops.toList.dropLast ++ [o] := by
  cases hl : ops.toList with
  | nil => rw [hl] at h; cases h
  | cons a r =>
    rw [hl] at h
    have := List.dropLast_concat_getLast (l := a :: r) (by simp)
    rw [List.getLast?_eq_some_getLast (by simp)] at h
    rw [← Option.some.inj h]
    exact this.symm

/-- What is to be shown of a call that may panic. -/
def callPK (P : Program) (k : Nat) (as : List AV) (σ : AS) (d : Option Nat) (Q : Exit → AS → Prop) : Prop :=
  ∃ R V X, QCallP P k σ.m as R V X ∧ (∀ m' r, R m' r → Q .normal (AS.put ⟨σ.s, m'⟩ d r)) ∧ (∀ m', X m' → Q (.panic (one V)) ⟨σ.s, m'⟩)
def callPX (P : Program) (f : Operand) (args : Array Operand) (tys : Array Nat) (d : Option Nat) (Q : Exit → AS → Prop) (τ : AS) : Prop := match fnOf (τ.ev P 0 f) with
  | some (k, caps) => bodyOk P k = true ∧ callPK P k (evs P τ tys args ++ caps) τ d Q
  | none => False
theorem callPK.go {k : Nat} {as : List AV} {σ : AS} {d : Option Nat} {Q : Exit → AS → Prop} {R : AH → AV → Prop} {V : Value} {X : AH → Prop} (h : QCallP P k σ.m as R V X) (h1 : ∀ m' r, R m' r → Q .normal (AS.put ⟨σ.s, m'⟩ d r)) (h2 : ∀ m', X m' → Q (.panic (one V)) ⟨σ.s, m'⟩) : callPK P k as σ d Q := ⟨R, V, X, h, h1, h2⟩
@[congr] theorem callPK_congr {k : Nat} {as as' : List AV} {σ σ' : AS} {d : Option Nat} {Q : Exit → AS → Prop} (h : as = as') (h2 : σ = σ') : callPK P k as σ d Q = callPK P k as' σ' d Q := by rw [h, h2]
@[congr] theorem callPX_congr {f : Operand} {args : Array Operand} {tys : Array Nat} {d : Option Nat} {Q : Exit → AS → Prop} {σ σ' : AS} (h2 : σ = σ') : callPX P f args tys d Q σ = callPX P f args tys d Q σ' := by rw [h2]
@[go_sem] theorem callPX_eq {f : Operand} {args : Array Operand} {tys : Array Nat} {d : Option Nat} {Q : Exit → AS → Prop} {τ : AS} : callPX P f args tys d Q τ = (match fnOf (τ.ev P 0 f) with
  | some (k, caps) => bodyOk P k = true ∧ callPK P k (evs P τ tys args ++ caps) τ d Q
  | none => False) := (rfl)

theorem AW_callL {E : Env} {id : Nat} {ops : Array Oper} {f : Operand} {args : Array Operand} {tys : Array Nat} {Q : Exit → AS → Prop} {σ : AS} {d : Option Nat} {ty : Nat} {pos after} (hops : ops.toList.getLast? = some ⟨d, .call ⟨.value f, args, tys⟩, ty, pos, after, none⟩)
    (h : exOps P ops ops.toList.dropLast σ (callPX P f args tys d Q)) : AW P E (.region id ops false) Q σ := by
  refine AW_callP (dropLast_of hops) rfl rfl ?_
  have : callPX P f args tys d Q = fun τ => ∃ k caps R V X, fnOf (τ.ev P 0 f) = some (k, caps) ∧ bodyOk P k = true ∧ QCallP P k τ.m (evs P τ tys args ++ caps) R V X ∧ (∀ m' r, R m' r → Q .normal (AS.put ⟨τ.s, m'⟩ d r)) ∧ (∀ m', X m' → Q (.panic (one V)) ⟨τ.s, m'⟩) := by
    funext τ
    apply propext
    unfold callPX callPK
    constructor
    · intro h
      split at h
      · rename_i k caps hf
        obtain ⟨h1, R, V, X, h2⟩ := h
        exact ⟨k, caps, R, V, X, hf, h1, h2⟩
      · exact h.elim
    · rintro ⟨k, caps, R, V, X, hf, h1, h2⟩
      rw [hf]
      exact ⟨h1, R, V, X, h2⟩
  rw [this] at h
  exact h
theorem AW_panicL {E : Env} {id : Nat} {ops : Array Oper} {o : Oper} {x : Operand} {Q : Exit → AS → Prop} {σ : AS} {V : Value} {t : Nat} {v : Value} (hV : V = .iface t v) (hops : ops.toList.getLast? = some o) (hg : o.guard = none) (ho : o.op = .panic x)
    (h : exOps P ops ops.toList.dropLast σ fun τ => (∀ G w u, RepA G w (τ.ev P 0 x) u → u = V) ∧ Q (.panic (one V)) τ) :
    AW P E (.region id ops false) Q σ := AW_panic hV (dropLast_of hops) hg ho h
theorem QCallP.of_bodyB {f : Nat} {fn : Func} {c : Code} {m0 : AH} {as : List AV} {R : AH → AV → Prop} {V : Value} {X : AH → Prop} {n k1 k2 : Nat} {rs : List ResultVar} (hf : P.funcs[f]? = some fn) (hb : fn.body = some c) (hn : fn.ntmps = n) (hrs : fn.results.toList = rs)
    (h : ∀ E, exB P E k1 k2 c ⟨as ++ List.replicate (n - as.length) undefA, m0⟩ (bodyQP P rs R V X)) : QCallP P f m0 as R V X := QCallP.of_bodyR hf hb hn hrs fun E _ => exB_ok c _ _ (h E)

end
attribute [irreducible] exB exC0 QCallP DCall callPK callPX
end Go.AB
