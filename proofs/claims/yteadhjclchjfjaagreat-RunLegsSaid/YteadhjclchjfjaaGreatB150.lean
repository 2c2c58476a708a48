/- Ranges over functions: the loop, and what an iterator promises. -/
import Derived.Test.YteadhjclchjfjaaGreatB140
namespace Go.AB

/-- Where a round has left the memory. -/
def Done (N : Env) (G : Gh) (w : World) (J : AH → Prop) (w' : World) : Prop := ∃ A G' m', Sub A N ∧ Inv A G' m' w' ∧ Ext G w G' w' ∧ J m'

/-- What is kept to is kept while the memory grows. -/
def Grow (J : Nat → AH → Prop) : Prop := ∀ k h o nx lv nx' lv', J k ⟨h, o, nx, lv⟩ → nx ≤ nx' → (∀ j, lv j → lv' j) → J k ⟨h, o, nx', lv'⟩

/-- What is known of yield: one round for each value, in their order. -/
def Yields (P : Program) (N : Env) (Nx : Code → Env) (l : Nat) (xs : List (List AV)) (J : Nat → AH → Prop) (Jx : Code → AH → Prop) : Prop :=
  Grow J ∧ ∀ (k : Nat) (x : List AV) (m : AH) (A : Env) (G : Gh) (w : World) (vs : List Value), xs[k]? = some x → J k m → Sub A N → Inv A G m w → RepArgs G w x vs →
    YieldAt Fence.wide 0 P l vs.toArray w fun e w' => (e = .returned (.bool true) ∧ Done N G w (J (k + 1)) w') ∨ (e = .returned (.bool false) ∧ ∃ c, Done (Nx c) G w (Jx c) w')

/-- The environments of an iterator's frame: while it yields, and when it has been stopped. -/
structure ItOk (P : Program) (N : Env) (Nx : Code → Env) : Prop where
  rd : N.rd = none
  ds : N.ds = []
  lk : N.lk ≠ []
  T : TabsOk P N
  rdx : ∀ c, (Nx c).rd = none
  dsx : ∀ c, (Nx c).ds = []
  lkx : ∀ c, (Nx c).lk ≠ []
  Tx : ∀ c, TabsOk P (Nx c)

/-- A function that yields these values, one by one. -/
def ICall (P : Program) (f : Nat) (caps : List AV) (xs : List (List AV)) : Prop :=
  ∀ (N : Env) (Nx : Code → Env) (l : Nat) (J : Nat → AH → Prop) (Jx : Code → AH → Prop), ItOk P N Nx → Yields P N Nx l xs J Jx →
    ∀ (A : Env) (G : Gh) (m : AH) (w : World) (vs : List Value), Sub A N → Inv A G m w → RepArgs G w caps vs → J 0 m →
      Calls P f (#[.func (.yield l) #[] #[]] ++ vs.toArray) w fun e w' => (∃ v, e = .returned v) ∧ ((∃ A G' m', Sub A N ∧ Inv A G' m' w' ∧ J xs.length m') ∨ ∃ c A G' m', Sub A (Nx c) ∧ Inv A G' m' w' ∧ Jx c m')

/-- How a round may be left. -/
def roundQ (J : Nat → AH → Prop) (Jx : Code → AH → Prop) (k : Nat) : Exit → AS → Prop
  | .normal, σ => J (k + 1) σ.m
  | .ret, σ => Jx .ret σ.m
  | .exit id, σ => Jx (.exit id) σ.m
  | _, _ => False

def setPs : List AV → List Nat → List AV → List AV
  | s, p :: ps, x :: xs => setPs (s.set p x) ps xs
  | s, _, _ => s

theorem set_rep {G : Gh} {w : World} {s : List AV} {tmps : Array Value} {d : Nat} {x : AV} {v : Value} (hs : tmps.size = s.length) (hr : ∀ t, RepA G w (nth s t) (tmps.getD t undef)) (hv : RepA G w x v) :
    ∀ t, RepA G w (nth (s.set d x) t) ((tmps.setIfInBounds d v).getD t undef) := by
  intro t
  rw [nth_set]
  by_cases h : d = t ∧ d < s.length
  · rw [if_pos h]
    obtain ⟨rfl, h2⟩ := h
    have : (tmps.setIfInBounds d v).getD d undef = v := by simp [Array.getD_eq_getD_getElem?, hs, h2]
    rw [this]; exact hv
  · rw [if_neg h]
    have : (tmps.setIfInBounds d v).getD t undef = tmps.getD t undef := by
      simp only [Array.getD_eq_getD_getElem?]
      rw [Array.getElem?_setIfInBounds]
      by_cases hdt : d = t
      · subst hdt
        have h2 : ¬ d < s.length := fun h3 => h ⟨rfl, h3⟩
        simp [hs, h2]
      · simp [hdt]
    rw [this]
    exact hr t

theorem setPs_rep {G : Gh} {w : World} : ∀ (ps : List Nat) (x : List AV) (vs : List Value) (s : List AV) (tmps : Array Value), RepArgs G w x vs → tmps.size = s.length → (∀ t, RepA G w (nth s t) (tmps.getD t undef)) →
    ((ps.zip vs).foldl (fun tmps (p : Nat × Value) => tmps.setIfInBounds p.1 p.2) tmps).size = (setPs s ps x).length ∧ ∀ t, RepA G w (nth (setPs s ps x) t) (((ps.zip vs).foldl (fun tmps (p : Nat × Value) => tmps.setIfInBounds p.1 p.2) tmps).getD t undef)
  | [], x, vs, s, tmps, _, h1, h2 => by cases x <;> exact ⟨h1, h2⟩
  | p :: ps, [], vs, s, tmps, h0, h1, h2 => by
    have : vs = [] := List.eq_nil_of_length_eq_zero (by simpa using h0.1)
    subst this
    exact ⟨h1, h2⟩
  | p :: ps, x :: xs, [], s, tmps, h0, h1, h2 => absurd h0.1 (by simp)
  | p :: ps, x :: xs, v :: vs, s, tmps, h0, h1, h2 => by
    have hr : RepArgs G w xs vs := ⟨by simpa using h0.1, fun i a u ha hu => h0.2 (i + 1) a u (by simpa using ha) (by simpa using hu)⟩
    exact setPs_rep ps xs vs (s.set p x) (tmps.setIfInBounds p v) hr (by simp [h1]) (set_rep h1 h2 (h0.2 0 x v rfl rfl))

theorem enter_of {P : Program} {f : Nat} (hb : bodyOk P f = true) (args : Array Value) (w : World) : (callFunc f args).run P w = .ok (.enter f args) w := by
  unfold bodyOk at hb
  split at hb
  · rename_i fn hfn
    simp only [Bool.and_eq_true, bne_iff_ne, ne_eq] at hb
    obtain ⟨hb1, hb2⟩ := hb
    have hb3 : fn.body.isNone = false := by cases hbb : fn.body <;> simp_all
    have hb4 : (fn.name == "runtime.NumGoroutine") = false := by simpa using hb1
    simp only [callFunc, Sem.run_bind, run_program, Sem.run_pure, Result.andThen_ok, hfn, hb3, hb4, Bool.false_eq_true, if_false]
  · cases hb

/-- The record turns. -/
theorem Sub.turn {A M N : Env} {G : Gh} {m : AH} {w : World} {l : Nat} {o : Obj} {rest : List (Nat × Obj)} (hs : Sub A M) (hi : Inv A G m w) (hN : Inv N (G.free A) m w) (hlk : A.lk = (l, o) :: rest) (hne : ∀ x ∈ rest, x.1 ≠ l) (hm : N.may l ∨ N.w0.heap.size ≤ l) (o' : Obj) :
    Inv N (G.free A) m (w.putObj l o') ∧ Ext G w (G.free A) (w.putObj l o') ∧ Lie (G.free A) (w.putObj l o') ((l, o') :: rest) := by
  have lie := hs.lie hi
  rw [hlk] at lie
  obtain ⟨h1, h2, h3, _⟩ := lie _ (List.mem_cons_self ..)
  obtain ⟨g1, g2⟩ := hN.putObj o' hm h2 h3
  refine ⟨g1, (G.free_ext A w).trans g2, fun x hx => ?_⟩
  rcases List.mem_cons.1 hx with rfl | hx
  · exact ⟨by simpa using h1, h2, h3, World.putObj_heap_same h1⟩
  · obtain ⟨k1, k2, k3, k4⟩ := lie x (List.mem_cons_of_mem _ hx)
    exact ⟨by simpa using k1, k2, k3, (World.putObj_heap_other (hne x hx)).trans k4⟩

theorem Lie.alloc {G : Gh} {w : World} {lk : List (Nat × Obj)} (h : Lie G w lk) (o : Obj) (hw : G.who w.heap.size = none) (hs : ∀ j, ¬ G.st w.heap.size j) : Lie G (w.alloc o) ((w.heap.size, o) :: lk) := fun x hx => by
  rcases List.mem_cons.1 hx with rfl | hx
  · exact ⟨by simp, hw, hs, World.alloc_heap_new w o⟩
  · obtain ⟨h1, h2, h3, h4⟩ := h x hx
    exact ⟨by rw [World.size_alloc]; omega, h2, h3, (Go.RowKit.Below.heap_alloc _ _ _ h1).trans h4⟩

theorem AW_range {P : Program} {E : Env} {g : Operand} {ps : Array Tmp} {assign body : Code} {Q : Exit → AS → Prop} {s : List AV} {m : AH} {f : Nat} {caps : List AV} {xs : List (List AV)} (htop : E.top) (hg : AS.ev P ⟨s, m⟩ 0 g = .fn f caps) (hb : bodyOk P f = true)
    (hit : ICall P f caps xs) (hps : ∀ x ∈ xs, x.length = ps.size) (J : Nat → AH → Prop) (Jx : Code → AH → Prop) (hG : Grow J) (h0 : J 0 m)
    (round : ∀ k x m', xs[k]? = some x → J k m' → ∀ E1, AW P E1 assign (thenQ (fun σ => ∀ E2, AW P E2 body (roundQ J Jx k) σ) fun _ _ => False) ⟨setPs s ps.toList x, m'⟩)
    (done : ∀ m', J xs.length m' → Q .normal ⟨s, m'⟩) (stop : ∀ c m', Jx c m' → exC P E c ⟨s, m'⟩ Q) : AW P E (.rangeFunc g ps assign body) Q ⟨s, m⟩ := by
  unfold AW
  intro hT A a w hs hst
  obtain ⟨G, hi, hsz, hd, hr⟩ := hst
  obtain ⟨Ds, d1, d2, d3, d4, _⟩ := hs.lk
  have hgr := ev_rep (P := P) (σ := ⟨s, m⟩) hr 0 g
  rw [hg] at hgr
  obtain ⟨us, hge, hul, hus⟩ : ∃ us : List Value, a.eval g = .func (.func f) #[] us.toArray ∧ us.length = caps.length ∧ ∀ (i : Nat) (c : AV) (v : Value), caps[i]? = some c → us[i]? = some v → RepA G w c v := by
    generalize a.eval g = gv at hgr
    cases hgr with
    | fn _ _ vs h1 h2 => exact ⟨vs, rfl, h1, h2⟩
  rw [htop.1]
  show Code.wpIn (fenceR none) 0 P _ _ _ _
  refine wpIn_rangeFunc ?_
  intro fn hfn
  have i0 := hi.free
  have iE : Inv E (G.free A) m w := hs.inv _ _ _ i0
  have x0 := G.free_ext A w
  have lie0 := hs.lie hi
  generalize G.free A = G1 at i0 iE x0 lie0
  obtain ⟨rec, hrec⟩ : ∃ rec : LoopState → Option Code → Loop, rec = fun st pe => { state := st, pending := pe, fn, tmps := a.tmps, params := ps, assign, body, defers := w.heap.size } := ⟨_, rfl⟩
  obtain ⟨W1, hW1⟩ : ∃ W1, (w.alloc (.deferred (some []))).alloc (.loop (rec .ready none)) = W1 := ⟨_, rfl⟩
  obtain ⟨l, hl⟩ : ∃ l, w.heap.size + 1 = l := ⟨_, rfl⟩
  obtain ⟨ia, xa⟩ := iE.alloc (.deferred (some []))
  obtain ⟨ib, xb⟩ := ia.alloc (.loop (rec .ready none))
  have hfr := fun b (hb : w.heap.size ≤ b) => iE.fresh b hb
  have lie1 := (lie0.alloc (.deferred (some [])) (hfr _ (Nat.le_refl _)).1 (hfr _ (Nat.le_refl _)).2).alloc (.loop (rec .ready none)) (hfr _ (by simp)).1 (hfr _ (by simp)).2
  rw [hW1] at ib xb lie1
  rw [World.size_alloc, hl] at lie1
  have x1 : Ext G w G1 W1 := (x0.trans xa).trans xb
  have hne : ∀ x ∈ (w.heap.size, Obj.deferred (some [])) :: A.lk, x.1 ≠ l := fun x hx => by
    rcases List.mem_cons.1 hx with rfl | hx
    · simp only; omega
    · have := (lie0 x hx).1; omega
  obtain ⟨L, hL⟩ : ∃ L, (w.heap.size, Obj.deferred (some [])) :: A.lk = L := ⟨_, rfl⟩
  rw [hL] at lie1 hne
  have hEl : E.w0.heap.size ≤ l := by have := iE.kept.size; omega
  obtain ⟨N0, hN0⟩ : ∃ N0, E.frame none [] ((l, .loop (rec .ready none)) :: L) = N0 := ⟨_, rfl⟩
  have ic : Inv N0 G1 m W1 := by rw [← hN0]; exact ib.frame ..
  obtain ⟨N, hN⟩ : ∃ N, N0.atX G1 W1 [] (fun b => b = l) = N := ⟨_, rfl⟩
  have inN : Inv N G1 m W1 := by rw [← hN]; exact ic.atX [] _
  have nrd : N.rd = none := by rw [← hN, ← hN0]; rfl
  have nds : N.ds = [] := by rw [← hN, ← hN0]; rfl
  have nlk : N.lk = (l, .loop (rec .ready none)) :: L := by rw [← hN, ← hN0]; rfl
  have nmay : N.may l ∨ N.w0.heap.size ≤ l := by rw [← hN, ← hN0]; exact .inl ⟨.inr hEl, .inr rfl⟩
  have ng : N.g0 = G1 ∧ N.w0 = W1 := by rw [← hN]; exact ⟨rfl, rfl⟩
  have upE : ∀ G' m' w', Inv N G' m' w' → Inv E G' m' w' := fun G' m' w' h => by
    have h2 : Inv N0 G' m' w' := by rw [← hN] at h; exact ic.unatX h
    rw [← hN0] at h2
    exact h2.unframe
  have hTN : TabsOk P N := fun w' k => by
    refine hT w' ?_
    have k2 : Kept N0 w' := by rw [← hN] at k; exact k.unatX ic
    rw [← hN0] at k2
    exact k2.unframe
  have sub1 : Sub (N.at G1 W1 []) N := inN.at_sub List.nodup_nil (by simp) (.inl rfl) (by rw [nlk]; exact lie1)
  -- the nominal frames
  have subR : ∀ (M : Env) (G' : Gh) (m' : AH) (w' : World), Inv M G' m' w' → Lie G' w' M.lk → Sub (M.at G' w' []) M := fun M G' m' w' h1 h2 => h1.at_sub List.nodup_nil (by simp) (.inl rfl) h2
  refine ⟨l, [mark w.heap.size], W1, { target := .fn (.func f) us.toArray, args := #[.func (.yield l) #[] #[]] }, W1, f, #[.func (.yield l) #[] #[]] ++ us.toArray, W1, ?_, ?_, fun _ _ => trivial, ?_, fun h => absurd h (by simp [fenceR, Fence.wide]), ?_⟩
  · rw [← hW1, hrec, ← hl]; exact run_enterLoop_outer _ _ _ _ _
  · simp only [resolve, hge, Deferred.ofValue, Sem.run_pure]
    have e1 : Array.map a.eval #[Operand.const (Value.func (Fn.yield l) #[] #[])] = #[Value.func (Fn.yield l) #[] #[]] := by simp [Act.eval]
    rw [e1]
    rfl
  · simp only [invoke]
    rw [enter_of hb]
  refine callsIn_R.2 ((hit N (fun c => N.frame none [] ((l, .loop (rec .done (some c))) :: L)) l J Jx ⟨nrd, nds, by rw [nlk]; simp, hTN, fun _ => rfl, fun _ => rfl, fun _ => by simp [Env.frame], fun c => TabsOk.frame hTN _ _ _⟩ ⟨hG, ?_⟩ _ G1 m W1 us sub1 (inN.atX [] _) ⟨hul, fun i c v h1 h2 => (hus i c v h1 h2).ext x1⟩ h0).mono ?_)
  · -- one round
    intro k x m2 A2 G2 w2 vs hx hJ hs2 hi2 hrep
    have hlen : vs.length = ps.size := by rw [hrep.1]; exact hps x (List.mem_of_getElem? hx)
    have lk2 : A2.lk = (l, .loop (rec .ready none)) :: L := by rw [(hs2.same (.inl (by rw [nlk]; simp))).2, nlk]
    have i3 := hi2.free
    have x3 := G2.free_ext A2 w2
    have lie3 := hs2.lie hi2
    rw [lk2] at lie3
    have n3 : Inv N (G2.free A2) m2 w2 := hs2.inv _ _ _ i3
    generalize G2.free A2 = G3 at i3 x3 lie3 n3
    have hl2 := (lie3 _ (List.mem_cons_self ..)).2.2.2
    have hy := run_yield (P := P) (args := vs.toArray) hl2 (by rw [hrec]; simpa using hlen)
    rw [hrec] at hy
    simp only at hy
    refine ⟨fn, _, assign, body, hy, roundIn_of_wpIn trivial ?_⟩
    -- the assignment
    obtain ⟨M, hM⟩ : ∃ M, (N.frame (some l) [] ((l, .loop (rec .ready none)) :: L)).at G3 w2 [] = M := ⟨_, rfl⟩
    have im0 : Inv (N.frame (some l) [] ((l, .loop (rec .ready none)) :: L)) G3 m2 w2 := n3.frame ..
    have im : Inv M G3 m2 w2 := by rw [← hM]; exact im0.atX [] _
    have hMM : Sub M M := by rw [← hM]; exact Sub.refl (Inv.at_ok (by exact lie3))
    have mlk : M.lk = (l, .loop (rec .ready none)) :: L := by rw [← hM]; rfl
    have mrd : M.rd = some l := by rw [← hM]; rfl
    have mds : M.ds = [] := by rw [← hM]; rfl
    have mg : M.g0 = G3 ∧ M.w0 = w2 := by rw [← hM]; exact ⟨rfl, rfl⟩
    have hTM : TabsOk P M := fun w' k => by
      refine hTN w' ?_
      rw [← hM] at k
      exact (k.unatX im0).unframe
    have upN : ∀ G' m' w', Inv M G' m' w' → Inv N G' m' w' := fun G' m' w' h => by
      rw [← hM] at h
      exact (im0.unatX h).unframe
    obtain ⟨z1, z2⟩ := setPs_rep ps.toList x vs s a.tmps ⟨hrep.1, fun i c v h1 h2 => (hrep.2 i c v h1 h2).ext x3⟩ hsz (fun t => ((hr t).ext (x1)).ext (by have := n3.ext; rw [ng.1, ng.2] at this; exact this))
    have hfold : ((ps.zip vs.toArray).foldl (fun tmps (p : Tmp × Value) => tmps.setIfInBounds p.1 p.2) a.tmps) = (ps.toList.zip vs).foldl (fun tmps (p : Nat × Value) => tmps.setIfInBounds p.1 p.2) a.tmps := by
      rw [← Array.foldl_toList, Array.toList_zip]
    have hround := round k x m2 hx hJ
    unfold AW at hround
    have hst : St M ⟨setPs s ps.toList x, m2⟩ { tmps := (ps.zip vs.toArray).foldl (fun tmps (p : Tmp × Value) => tmps.setIfInBounds p.1 p.2) a.tmps, defers := [] } w2 := by
      rw [hfold]
      exact ⟨G3, im, z1, mds.symm, z2⟩
    have hA := hround M hTM M _ w2 hMM hst
    rw [mrd] at hA
    refine wpIn_mono (show Code.wpIn (Fence.wide.inRound l) 0 P assign _ _ _ from hA) ?_
    rintro e a3 w3 ⟨A3, σ3, hs3, ⟨G4, i4, s4, d4', r4⟩, hq⟩
    cases e with
    | normal => ?_
    | _ => exact hq.elim
    have lk3 : A3.lk = (l, .loop (rec .ready none)) :: L := by rw [(hs3.same (.inl (by rw [mlk]; simp))).2, mlk]
    have ds3 : A3.ds = [] := by rw [(hs3.same (.inl (by rw [mlk]; simp))).1, mds]
    have x4 : Ext G3 w2 G4 w3 := by have := (hs3.inv _ _ _ i4).ext; rw [mg.1, mg.2] at this; exact this
    have n4 : Inv N (G4.free A3) σ3.m w3 := upN _ _ _ (hs3.inv _ _ _ i4.free)
    obtain ⟨n5, x5, lie5⟩ := hs3.turn i4 n4 lk3 hne nmay (.loop (rec .busy none))
    have hl3 := (hs3.there i4 (x := (l, .loop (rec .ready none))) (by rw [lk3]; exact List.mem_cons_self ..)).2.1
    have hbr : (Instr.beginRound l).run P w3 = .ok () (w3.putObj l (.loop (rec .busy none))) := by
      have := run_beginRound (P := P) hl3 (by rw [hrec])
      rw [hrec] at this ⊢
      exact this
    refine ⟨_, hbr, ?_⟩
    generalize G4.free A3 = G5 at n5 x5 lie5
    generalize w3.putObj l (.loop (rec .busy none)) = w4 at n5 x5 lie5
    clear n4
    -- the body
    obtain ⟨M1, hM1⟩ : ∃ M1, (N.frame (some l) [] ((l, .loop (rec .busy none)) :: L)).at G5 w4 [] = M1 := ⟨_, rfl⟩
    have jm0 : Inv (N.frame (some l) [] ((l, .loop (rec .busy none)) :: L)) G5 σ3.m w4 := n5.frame ..
    have jm : Inv M1 G5 σ3.m w4 := by rw [← hM1]; exact jm0.atX [] _
    have hMM1 : Sub M1 M1 := by rw [← hM1]; exact Sub.refl (Inv.at_ok (by exact lie5))
    have mlk1 : M1.lk = (l, .loop (rec .busy none)) :: L := by rw [← hM1]; rfl
    have mrd1 : M1.rd = some l := by rw [← hM1]; rfl
    have mds1 : M1.ds = [] := by rw [← hM1]; rfl
    have mg1 : M1.g0 = G5 ∧ M1.w0 = w4 := by rw [← hM1]; exact ⟨rfl, rfl⟩
    have hTM1 : TabsOk P M1 := fun w' k => by
      refine hTN w' ?_
      rw [← hM1] at k
      exact (k.unatX jm0).unframe
    have upN1 : ∀ G' m' w', Inv M1 G' m' w' → Inv N G' m' w' := fun G' m' w' h => by
      rw [← hM1] at h
      exact (jm0.unatX h).unframe
    have hB := hq M1
    unfold AW at hB
    have hB := hB hTM1 M1 a3 w4 hMM1 ⟨G5, jm, s4, by rw [mds1, d4', ds3], fun t => (r4 t).ext x5⟩
    rw [mrd1] at hB
    refine wpIn_mono (show Code.wpIn (Fence.wide.inRound l) 0 P body _ _ _ from hB) ?_
    rintro e a5 w5 ⟨A5, σ5, hs5, ⟨G6, i6, s6, d6, r6⟩, hq5⟩
    have lk5 : A5.lk = (l, .loop (rec .busy none)) :: L := by rw [(hs5.same (.inl (by rw [mlk1]; simp))).2, mlk1]
    have x6 : Ext G5 w4 G6 w5 := by have := (hs5.inv _ _ _ i6).ext; rw [mg1.1, mg1.2] at this; exact this
    have n6 : Inv N (G6.free A5) σ5.m w5 := upN1 _ _ _ (hs5.inv _ _ _ i6.free)
    have hl5 := (hs5.there i6 (x := (l, .loop (rec .busy none))) (by rw [lk5]; exact List.mem_cons_self ..)).2.1
    have xx : Ext G2 w2 G6 w5 := ((x3.trans x4).trans x5).trans x6
    have out : ∀ c : Code, Jx c σ5.m → ∃ v w', (Instr.endRound l (some c)).run P w5 = .ok v w' ∧ ((Ending.returned v = .returned (.bool true) ∧ Done N G2 w2 (J (k + 1)) w') ∨ (Ending.returned v = .returned (.bool false) ∧ ∃ c, Done (N.frame none [] ((l, .loop (rec .done (some c))) :: L)) G2 w2 (Jx c) w')) := by
      intro c hc
      obtain ⟨n7, x7, lie7⟩ := hs5.turn i6 n6 lk5 hne nmay (.loop (rec .done (some c)))
      have hrun : (Instr.endRound l (some c)).run P w5 = .ok (.bool false) (w5.putObj l (.loop (rec .done (some c)))) := by
        have := run_endRound (P := P) (some c) hl5
        rw [hrec] at this ⊢
        exact this
      refine ⟨_, _, hrun, .inr ⟨rfl, c, _, _, σ5.m, subR (N.frame none [] ((l, .loop (rec .done (some c))) :: L)) _ _ _ (n7.frame ..) lie7, (Inv.frame n7 _ _ _).atX [] _, xx.trans x7, hc⟩⟩
    cases e with
    | normal =>
      obtain ⟨n7, x7, lie7⟩ := hs5.turn i6 n6 lk5 hne nmay (.loop (rec .ready none))
      have hrun : (Instr.endRound l none).run P w5 = .ok (.bool true) (w5.putObj l (.loop (rec .ready none))) := by
        have := run_endRound (P := P) none hl5
        rw [hrec] at this ⊢
        exact this
      exact ⟨_, _, hrun, .inl ⟨rfl, _, _, σ5.m, subR N _ _ _ n7 (by rw [nlk]; exact lie7), n7.atX [] _, xx.trans x7, hq5⟩⟩
    | ret => exact out .ret hq5
    | exit id => exact out (.exit id) hq5
    | _ => exact hq5.elim
  · -- behind the loop
    have last : ∀ (G9 : Gh) (m9 : AH) (w9 : World) (o : Obj), Inv N G9 m9 w9 → Lie G9 w9 ((l, o) :: L) → Sub (E.at G9 w9 (w.heap.size :: Ds)) E ∧ St (E.at G9 w9 (w.heap.size :: Ds)) ⟨s, m9⟩ { a with defers := mark w.heap.size :: a.defers } w9 := by
      intro G9 m9 w9 o n9 lie9
      have e9 := upE _ _ _ n9
      have hx9 : Ext G w G9 w9 := by have := n9.ext; rw [ng.1, ng.2] at this; exact x1.trans this
      have hLL : L = (w.heap.size :: Ds).map shut ++ E.lk := by rw [← hL, d2]; rfl
      refine ⟨e9.at_sub (List.nodup_cons.2 ⟨fun hm => ?_, d3⟩) (fun D hD => ?_) (.inr htop) (by rw [← hLL]; exact fun x hx => lie9 x (List.mem_cons_of_mem _ hx)), G9, e9.atX _ _, hsz, ?_, fun t => (hr t).ext hx9⟩
      · have := (lie0 (shut w.heap.size) (by rw [d2]; exact List.mem_append_left _ (List.mem_map_of_mem hm))).1
        exact absurd this (Nat.lt_irrefl _)
      · rcases List.mem_cons.1 hD with rfl | hD
        · exact iE.kept.size
        · exact d4 D hD
      · show mark w.heap.size :: a.defers = (w.heap.size :: Ds).map mark ++ E.ds
        rw [hd, d1]; rfl
    rintro e w' ⟨⟨v, rfl⟩, ⟨A8, G8, m8, hs8, i8, hJ⟩ | ⟨c, A8, G8, m8, hs8, i8, hJ⟩⟩
    · have lk8 : A8.lk = (l, .loop (rec .ready none)) :: L := by rw [(hs8.same (.inl (by rw [nlk]; simp))).2, nlk]
      obtain ⟨n9, x9, lie9⟩ := hs8.turn i8 (hs8.inv _ _ _ i8.free) lk8 hne nmay (.loop (rec .exhausted none))
      have hl8 := (hs8.there i8 (x := (l, .loop (rec .ready none))) (by rw [lk8]; exact List.mem_cons_self ..)).2.1
      obtain ⟨h1, h2⟩ := last _ _ _ _ n9 lie9
      refine ⟨none, _, ?_, _, _, h1, h2, done m8 hJ⟩
      have := run_endLoop (P := P) hl8 (by rw [hrec]; simp)
      rw [hrec] at this ⊢
      exact this
    · have lk8 : A8.lk = (l, .loop (rec .done (some c))) :: L := (hs8.same (.inl (by simp [Env.frame]))).2
      obtain ⟨n9, x9, lie9⟩ := hs8.turn i8 (hs8.inv _ _ _ i8.free).unframe lk8 hne nmay (.loop (rec .exhausted (some c)))
      have hl8 := (hs8.there i8 (x := (l, .loop (rec .done (some c)))) (by rw [lk8]; exact List.mem_cons_self ..)).2.1
      obtain ⟨h1, h2⟩ := last _ _ _ _ n9 lie9
      have hc := exC_ok c _ _ (stop c m8 hJ)
      unfold AW at hc
      have hc := hc hT _ _ _ h1 h2
      rw [htop.1] at hc
      refine ⟨some c, _, ?_, hc⟩
      have := run_endLoop (P := P) hl8 (by rw [hrec]; simp)
      rw [hrec] at this ⊢
      exact this

end Go.AB

/- Iterators: walks that yield. -/
namespace Go.AB

section
variable {P : Program} {N : Env} {Nx : Code → Env}

/-- Where an iterator's walk leads: on, or stopped. -/
def LiftI (N : Env) (Nx : Code → Env) (Q : Exit → AS → Prop) (Qx : Code → Exit → AS → Prop) : Exit → Act → World → Prop := fun e a w =>
  (∃ A σ, Sub A N ∧ St A σ a w ∧ Q e σ) ∨ ∃ c A σ, Sub A (Nx c) ∧ St A σ a w ∧ Qx c e σ

def IW (P : Program) (N : Env) (Nx : Code → Env) (c : Code) (Q : Exit → AS → Prop) (Qx : Code → Exit → AS → Prop) (σ : AS) : Prop := ∀ A a w, Sub A N → St A σ a w → wpR P none c (LiftI N Nx Q Qx) a w

theorem IW_of {c : Code} {Q : Exit → AS → Prop} {Qx : Code → Exit → AS → Prop} {σ : AS} (hN : ItOk P N Nx) (h : AW P N c Q σ) : IW P N Nx c Q Qx σ := fun A a w hs hst => by
  unfold AW at h
  have := h hN.T A a w hs hst
  rw [hN.rd] at this
  exact wpIn_mono this fun e a w ⟨A, σ, h1, h2, h3⟩ => .inl ⟨A, σ, h1, h2, h3⟩

theorem IW_ex {c : Code} {Q : Exit → AS → Prop} {Qx : Code → Exit → AS → Prop} {σ : AS} (hN : ItOk P N Nx) (h : exC P N c σ Q) : IW P N Nx c Q Qx σ := IW_of hN (exC_ok c σ Q h)

theorem IW_seq {a b : Code} {Q : Exit → AS → Prop} {Qx : Code → Exit → AS → Prop} {σ : AS} (hN : ItOk P N Nx) (h : IW P N Nx a (thenQ (fun σ => IW P N Nx b Q Qx σ) Q) (fun c => thenQ (fun σ => AW P (Nx c) b (Qx c) σ) (Qx c)) σ) : IW P N Nx (.seq a b) Q Qx σ := fun A x w hs hst => by
  refine wpIn_seq (wpIn_mono (h A x w hs hst) ?_)
  rintro e a' w' (⟨A', σ', h1, h2, h3⟩ | ⟨c, A', σ', h1, h2, h3⟩)
  · cases e with
    | normal =>
      simp only [thenQ] at h3
      exact h3 A' a' w' h1 h2
    | _ => exact .inl ⟨A', σ', h1, h2, h3⟩
  · cases e with
    | normal =>
      simp only [thenQ] at h3
      unfold AW at h3
      have := h3 (hN.Tx c) A' a' w' h1 h2
      rw [hN.rdx] at this
      exact wpIn_mono this fun e a w ⟨A, σ, g1, g2, g3⟩ => .inr ⟨c, A, σ, g1, g2, g3⟩
    | _ => exact .inr ⟨c, A', σ', h1, h2, h3⟩

theorem IW_block {id : Nat} {b : Code} {Q : Exit → AS → Prop} {Qx : Code → Exit → AS → Prop} {σ : AS} (h : IW P N Nx b (blockQ id Q) (fun c => blockQ id (Qx c)) σ) : IW P N Nx (.block id b) Q Qx σ := fun A x w hs hst => by
  refine wpIn_block (wpIn_mono (h A x w hs hst) ?_)
  rintro e a' w' (⟨A', σ', h1, h2, h3⟩ | ⟨c, A', σ', h1, h2, h3⟩)
  · cases e with
    | exit id' =>
      simp only [blockQ] at h3
      simp only [Exit.inBlock]
      by_cases hid : id' = id
      · rw [if_pos hid] at h3 ⊢; exact .inl ⟨A', σ', h1, h2, h3⟩
      · rw [if_neg hid] at h3 ⊢; exact .inl ⟨A', σ', h1, h2, h3⟩
    | _ => exact .inl ⟨A', σ', h1, h2, h3⟩
  · cases e with
    | exit id' =>
      simp only [blockQ] at h3
      simp only [Exit.inBlock]
      by_cases hid : id' = id
      · rw [if_pos hid] at h3 ⊢; exact .inr ⟨c, A', σ', h1, h2, h3⟩
      · rw [if_neg hid] at h3 ⊢; exact .inr ⟨c, A', σ', h1, h2, h3⟩
    | _ => exact .inr ⟨c, A', σ', h1, h2, h3⟩

theorem IW_loop {b : Code} {Q : Exit → AS → Prop} {Qx : Code → Exit → AS → Prop} {σ : AS} {α : Type} (I : α → AS → Prop) (μ : α → Nat) (x0 : α) (h0 : I x0 σ)
    (round : ∀ x σ, I x σ → IW P N Nx b (thenQ (fun σ' => ∃ y, I y σ' ∧ μ y < μ x) Q) (fun c => thenQ (fun _ => False) (Qx c)) σ) : IW P N Nx (.loop b) Q Qx σ := by
  intro A a w hs hst
  have key : ∀ n x σ A a w, μ x = n → I x σ → Sub A N → St A σ a w → LoopAt P none b (LiftI N Nx Q Qx) a w := by
    intro n
    induction n using Nat.strongRecOn with
    | _ n ih =>
      intro x σ A a w hn hI hs hst
      refine LoopAt.round (wpIn_mono (round x σ hI A a w hs hst) ?_)
      rintro e a1 w1 (⟨A1, σ1, hs1, hst1, hq⟩ | ⟨c, A1, σ1, hs1, hst1, hq⟩)
      · cases e with
        | normal =>
          obtain ⟨y, hI1, hlt⟩ := hq
          exact ih (μ y) (hn ▸ hlt) y σ1 A1 a1 w1 rfl hI1 hs1 hst1
        | _ => exact .inl ⟨A1, σ1, hs1, hst1, hq⟩
      · cases e with
        | normal => exact hq.elim
        | _ => exact .inr ⟨c, A1, σ1, hs1, hst1, hq⟩
  exact (key _ x0 σ A a w rfl h0 hs hst).start

theorem IW_mono {c : Code} {Q Q' : Exit → AS → Prop} {Qx Qx' : Code → Exit → AS → Prop} {σ : AS} (h : IW P N Nx c Q Qx σ) (h1 : ∀ e σ, Q e σ → Q' e σ) (h2 : ∀ c e σ, Qx c e σ → Qx' c e σ) : IW P N Nx c Q' Qx' σ := fun A a w hs hst =>
  wpIn_mono (h A a w hs hst) fun e a w h => h.imp (fun ⟨A, σ, g1, g2, g3⟩ => ⟨A, σ, g1, g2, h1 _ _ g3⟩) (fun ⟨c, A, σ, g1, g2, g3⟩ => ⟨c, A, σ, g1, g2, h2 _ _ _ g3⟩)

/-- The operations of a region up to one of them. -/
def exOpsY (P : Program) (ops : Array Oper) (K : Oper → List Oper → AS → Prop) : Nat → List Oper → AS → Prop
  | 0, o :: r, σ => K o r σ
  | n + 1, o :: r, σ => exG P ops o σ (exOpsY P ops K n r)
  | _, [], _ => False

theorem exOpsY_ok {E : Env} {rd : Option Nat} {ops : Array Oper} {K : Oper → List Oper → AS → Prop} {Q : Exit → Act → World → Prop} (hT : TabsOk P E)
    (cont : ∀ (k : Nat) (o : Oper) (r : List Oper) (σ : AS) (a : Act) (w : World), ops.toList.drop k = o :: r → K o r σ → St E σ a w → wpOpsIn (fenceR rd) 0 P ops Q (List.range' k (r.length + 1)) a w) :
    ∀ (n : Nat) (l : List Oper) (k : Nat) (σ : AS) (a : Act) (w : World), ops.toList.drop k = l → exOpsY P ops K n l σ → St E σ a w → wpOpsIn (fenceR rd) 0 P ops Q (List.range' k l.length) a w
  | 0, o :: r, k, σ, a, w, hk, h, hst => cont k o r σ a w hk h hst
  | 0, [], _, _, _, _, _, h, _ => h.elim
  | n + 1, [], _, _, _, _, _, h, _ => h.elim
  | n + 1, o :: r, k, σ, a, w, hk, h, hst => by
    have hok : ops[k]? = some o := by
      have := congrArg (·[0]?) hk
      simpa using this
    have hr : ops.toList.drop (k + 1) = r := by
      have := congrArg (List.drop 1) hk
      simpa [List.drop_drop, Nat.add_comm] using this
    rw [List.length_cons, List.range'_succ]
    exact exG_step hT hok h (fun σ' a' w' h1 h2 => exOpsY_ok hT cont n r (k + 1) σ' a' w' hr h2 h1) hst

theorem exOpsY_zero {ops : Array Oper} {K : Oper → List Oper → AS → Prop} {o : Oper} {r : List Oper} {σ : AS} : exOpsY P ops K 0 (o :: r) σ = K o r σ := (rfl)
theorem exOpsY_succ {ops : Array Oper} {K : Oper → List Oper → AS → Prop} {n : Nat} {o : Oper} {r : List Oper} {σ : AS} : exOpsY P ops K (n + 1) (o :: r) σ = exG P ops o σ (exOpsY P ops K n r) := (rfl)
@[congr] theorem exOpsY_congr {ops : Array Oper} {K : Oper → List Oper → AS → Prop} {n : Nat} {l : List Oper} {σ σ' : AS} (h : σ = σ') : exOpsY P ops K n l σ = exOpsY P ops K n l σ' := by rw [h]
attribute [go_sem] exOpsY_zero exOpsY_succ

/-- The call of yield. -/
def Yld (P : Program) (ops : Array Oper) (l : Nat) (xs : List (List AV)) (J : Nat → AH → Prop) (Jx : Code → AH → Prop) (Q : Exit → AS → Prop) (Qx : Code → Exit → AS → Prop) (k : Nat) (o : Oper) (r : List Oper) (σ : AS) : Prop :=
  ∃ y args tys, o.guard = none ∧ o.op = .call ⟨.value y, args, tys⟩ ∧ AS.ev P σ 0 y = .raw (.func (.yield l) #[] #[]) ∧ xs[k]? = some (evs P σ tys args) ∧ J k σ.m ∧
    (∀ m', J (k + 1) m' → exOps P ops r (AS.put ⟨σ.s, m'⟩ o.dst (.bool true)) (Q .normal)) ∧ ∀ c m', Jx c m' → exOps P ops r (AS.put ⟨σ.s, m'⟩ o.dst (.bool false)) (Qx c .normal)

theorem IW_yield {id n k l : Nat} {ops : Array Oper} {xs : List (List AV)} {J : Nat → AH → Prop} {Jx : Code → AH → Prop} {Q : Exit → AS → Prop} {Qx : Code → Exit → AS → Prop} {σ : AS} (hN : ItOk P N Nx) (hY : Yields P N Nx l xs J Jx)
    (h : exOpsY P ops (Yld P ops l xs J Jx Q Qx k) n ops.toList σ) : IW P N Nx (.region id ops false) Q Qx σ := by
  intro A a w hs hst
  refine wpIn_region ?_
  have := exOpsY_ok (E := A) (rd := none) (Q := LiftI N Nx Q Qx) (hs.tabs hN.T) (fun p o r σ1 a1 w1 hp hK hst1 => ?_) n ops.toList 0 σ a w (by simp) h hst
  · rwa [Array.length_toList, ← List.range_eq_range'] at this
  obtain ⟨y, args, tys, hg, ho, hy, hx, hJ, h1, h2⟩ := hK
  obtain ⟨G, hi, hsz, hd, hr⟩ := hst1
  have hok : ops[p]? = some o := by
    have := congrArg (·[0]?) hp
    simpa using this
  have hrest : ops.toList.drop (p + 1) = r := by
    have := congrArg (List.drop 1) hp
    simpa [List.drop_drop, Nat.add_comm] using this
  have hyv := ev_rep (P := P) hr 0 y
  rw [hy] at hyv
  have hya : a1.eval y = .func (.yield l) #[] #[] := by
    generalize a1.eval y = v at hyv
    cases hyv; rfl
  obtain ⟨fn, tmps, assign, body, hrun, hround⟩ := hY.2 k _ σ1.m A G w1 _ hx hJ hs hi (evs_rep hr tys args)
  have dsA : A.ds = [] := by rw [(hs.same (.inl hN.lk)).1, hN.ds]
  rw [List.range'_succ, wpOpsIn]
  simp only [hok]
  have hw : Region.wanted o (yielded ops a1.tmps) = true := by simp [Region.wanted, hg]
  rw [if_pos hw]
  refine ⟨fun _ _ => trivial, ?_⟩
  rw [Oper.semAt_eq _ _ _ (fun c hc => by rw [ho] at hc; cases hc)]
  have hex : (execOp a1.eval o).run P w1 = .ok (.round l fn tmps assign body) w1 := by
    have e1 : (#[] ++ args.map a1.eval : Array Value) = (args.toList.map a1.eval).toArray := by apply Array.ext'; simp
    obtain ⟨dst, op, ty, pos, after, guard⟩ := o
    simp only at ho
    subst ho
    simp only [execOp, resolve, Deferred.ofValue, hya, Sem.run_bind, Sem.run_pure, Result.andThen_ok, invoke]
    rw [e1]
    exact hrun
  rw [hex]
  refine ⟨fun hh => absurd hh (by simp [fenceR, Fence.wide]), RoundIn.mono (show RoundIn (fenceR none) (0 - 1) P l fn tmps assign body w1 _ from hround) ?_⟩
  rintro e w2 (⟨rfl, A', G', m', g1, g2, g3, g4⟩ | ⟨rfl, c, A', G', m', g1, g2, g3, g4⟩)
  · have dsA' : A'.ds = [] := by rw [(g1.same (.inl hN.lk)).1, hN.ds]
    exact exOps_ok (E := A') (K := Q .normal) (g1.tabs hN.T) (fun σ' a' w' h3 h4 => .inl ⟨A', σ', g1, h3, h4⟩) r (p + 1) _ _ _ hrest (h1 m' g4) (St.step (E := A') hsz (by rw [hd, dsA, dsA']) hr g3 g2 (.bool true))
  · have dsA' : A'.ds = [] := by rw [(g1.same (.inl (hN.lkx c))).1, hN.dsx c]
    exact exOps_ok (E := A') (K := Qx c .normal) (g1.tabs (hN.Tx c)) (fun σ' a' w' h3 h4 => .inr ⟨c, A', σ', g1, h3, h4⟩) r (p + 1) _ _ _ hrest (h2 c m' g4) (St.step (E := A') hsz (by rw [hd, dsA, dsA']) hr g3 g2 (.bool false))
end

/-- The end of an iterator. -/
def itQ (n : Nat) (J : Nat → AH → Prop) : Exit → AS → Prop
  | .normal, σ => J n σ.m
  | .ret, σ => J n σ.m
  | _, _ => False
def itX (Jx : Code → AH → Prop) (c : Code) : Exit → AS → Prop
  | .normal, σ => Jx c σ.m
  | .ret, σ => Jx c σ.m
  | _, _ => False

theorem ICall.of_body {P : Program} {f : Nat} {fn : Func} {c : Code} {caps : List AV} {xs : List (List AV)} {n : Nat} (hf : P.funcs[f]? = some fn) (hb : fn.body = some c) (hn : fn.ntmps = n) (hres : fn.results.toList = [])
    (h : ∀ N Nx l J Jx, ItOk P N Nx → Yields P N Nx l xs J Jx → ∀ m, J 0 m → IW P N Nx c (itQ xs.length J) (itX Jx) ⟨(.raw (.func (.yield l) #[] #[]) :: caps) ++ List.replicate (n - (caps.length + 1)) undefA, m⟩) : ICall P f caps xs := by
  subst hn
  intro N Nx l J Jx hN hY A G m w vs hs hi hrep h0
  have dsA : A.ds = [] := by rw [(hs.same (.inl hN.lk)).1, hN.ds]
  have hargs : (#[.func (.yield l) #[] #[]] ++ vs.toArray : Array Value) = (Value.func (.yield l) #[] #[] :: vs).toArray := by apply Array.ext'; simp
  rw [hargs]
  refine (callsIn_wide (n := 0)).1 (callsIn_of_wp_marks hf hb trivial ?_ rfl)
  have hrep2 : RepArgs G w (.raw (.func (.yield l) #[] #[]) :: caps) (Value.func (.yield l) #[] #[] :: vs) := by
    refine ⟨by simp [hrep.1], fun i a v ha hv => ?_⟩
    cases i with
    | zero => cases ha; cases hv; exact .raw _
    | succ i => exact hrep.2 i a v (by simpa using ha) (by simpa using hv)
  have hw := h N Nx l J Jx hN hY m h0 A _ w hs (enter_st (n := fn.ntmps) dsA hi hrep2)
  refine wpIn_mono (show Code.wpIn Fence.wide 0 P c _ _ _ from hw) ?_
  have last : ∀ (A' : Env) (σ : AS) (a' : Act) (w' : World), A'.ds = [] → St A' σ a' w' → ((∃ A G' m', Sub A N ∧ Inv A G' m' w' ∧ J xs.length m') ∨ ∃ c A G' m', Sub A (Nx c) ∧ Inv A G' m' w' ∧ Jx c m') →
      LeavesInM Fence.wide 0 P fn a'.tmps (fun e w' => (∃ v, e = .returned v) ∧ ((∃ A G' m', Sub A N ∧ Inv A G' m' w' ∧ J xs.length m') ∨ ∃ c A G' m', Sub A (Nx c) ∧ Inv A G' m' w' ∧ Jx c m')) a'.defers .returning w' := by
    intro A' σ a' w' hds ⟨G', hi', hsz', hd', hr'⟩ hR
    rw [hd', hds]
    have hr0 : fn.results = #[] := by apply Array.ext'; simpa using hres
    refine ⟨.tuple #[], ?_, ⟨_, rfl⟩, hR⟩
    unfold results
    rw [hr0]
    simp [Sem.run_bind, Result.andThen]
  rintro e a' w' (⟨A', σ, g1, g2, g3⟩ | ⟨c', A', σ, g1, g2, g3⟩)
  · have dsA' : A'.ds = [] := by rw [(g1.same (.inl hN.lk)).1, hN.ds]
    have g2' := g2
    obtain ⟨G', hi', _⟩ := g2'
    cases e with
    | normal => exact last A' σ a' w' dsA' g2 (.inl ⟨A', G', σ.m, g1, hi', g3⟩)
    | ret => exact last A' σ a' w' dsA' g2 (.inl ⟨A', G', σ.m, g1, hi', g3⟩)
    | _ => exact g3.elim
  · have dsA' : A'.ds = [] := by rw [(g1.same (.inl (hN.lkx c'))).1, hN.dsx c']
    have g2' := g2
    obtain ⟨G', hi', _⟩ := g2'
    cases e with
    | normal => exact last A' σ a' w' dsA' g2 (.inr ⟨c', A', G', σ.m, g1, hi', g3⟩)
    | ret => exact last A' σ a' w' dsA' g2 (.inr ⟨c', A', G', σ.m, g1, hi', g3⟩)
    | _ => exact g3.elim

end Go.AB

/- Functions that hand back a function that bears variables of their own. -/
namespace Go.AB

theorem Inv.sealB {E : Env} {G : Gh} {m : AH} {w : World} (h : Inv E G m w) (hE : ∀ l, E.g0.bx l = none) :
    ∃ G', Inv E G' ⟨[], [], m.nx, m.lv⟩ w ∧ (∀ a x, portA a = true → RepA G w a x → RepA G' w a x) ∧ ∀ l cs ds x, m.cells l = some cs → toDs cs = some ds → RepA G w (.ptr l 0) x → RepA G' w (.ept ds) x := by
  let G' : Gh := { st := fun b2 j => G.st b2 j ∨ ∃ l cs o, m.cells l = some cs ∧ G.bx l = some (b2, o) ∧ o ≤ j ∧ j < o + cs.length, bx := fun _ => none, tk := G.tk, nx := G.nx, who := fun b2 => match G.who b2 with | some (.inr j) => some (.inr j) | _ => none }
  have hstm : ∀ b2 o2, G.st b2 o2 → G'.st b2 o2 := fun _ _ x => .inl x
  have hren : Ren (fun _ => none) G G' := ⟨hstm, (fun _ _ _ hk => by cases hk), rfl, rfl⟩
  have hbox : ∀ l cs b o, m.cells l = some cs → G.bx l = some (b, o) → G.who b = some (.inl l) ∧ (E.may b ∨ E.w0.heap.size ≤ b) := fun l cs b o hc hb => by
    obtain ⟨b', o', hb', hwho, hmay, _⟩ := h.box _ cs hc
    rw [hb] at hb'
    cases hb'
    exact ⟨hwho, hmay⟩
  refine ⟨G', ⟨h.kept, fun l2 cs2 hc2 => ?_, fun _ _ _ => rfl, fun i hi => ?_, h.lt, h.nx, fun b2 hb2 => ?_, ?_, fun b2 o2 hs hb2 => ?_⟩, fun a x ha hr => rnA_rep hren hr (rnA_port ha), fun l cs ds x hc hds hv => ?_⟩
  · cases l2 <;> simp [AH.cells, hget] at hc2
  · rcases h.tok i hi with ht | ⟨b3, o3, n, c, z3, cells, ty, t1, t2, t3, t4, t5, t6, t7⟩
    · exact .inl ht
    · refine .inr ⟨b3, o3, n, c, z3, cells, ty, t1, ?_, t3, t4, t5, t6, fun j hj hs => ?_⟩
      · show (match G.who b3 with | some (Sum.inr j) => some (Sum.inr j) | _ => none : Option (Loc ⊕ Nat)) = _
        rw [t2]
      · rcases hs with hs | ⟨l, cs, o, k1, k2, _⟩
        · exact t7 j hj hs
        · have := (hbox l cs b3 o k1 k2).1
          rw [t2] at this
          cases this
  · obtain ⟨f1, f2⟩ := h.fresh b2 hb2
    refine ⟨?_, fun j hs => ?_⟩
    · show (match G.who b2 with | some (Sum.inr j) => some (Sum.inr j) | _ => none : Option (Loc ⊕ Nat)) = _
      rw [f1]
    · rcases hs with hs | ⟨l, cs, o, k1, k2, _⟩
      · exact f2 j hs
      · have := (hbox l cs b2 o k1 k2).1
        rw [f1] at this
        cases this
  · exact ⟨fun b2 o2 hs => hstm _ _ (h.ext.st _ _ hs), h.ext.cell, (fun l x hx => by rw [hE] at hx; cases hx), h.ext.nx, h.ext.tk⟩
  · rcases hs with hs | ⟨l, cs, o, k1, k2, _⟩
    · exact h.st1 b2 o2 hs hb2
    · rcases (hbox l cs b2 o k1 k2).2 with hm | hm
      · exact .inr hm
      · omega
  · cases hv with
    | ptr _ _ b o hb h0 =>
      obtain ⟨b', o', hb', _, _, _, hcell, _⟩ := h.box _ cs hc
      rw [hb] at hb'
      cases hb'
      have hcell := hcell h0
      refine .ept ds b (o + 0) fun j d hd => ?_
      obtain ⟨_, g2⟩ := toDs_get _ _ hds
      obtain ⟨c, hck, hcd⟩ := g2 _ _ hd
      obtain ⟨_, x, v1, v2, v3⟩ := hcell _ c hck
      have hlt := (List.getElem?_eq_some_iff.1 hck).1
      exact ⟨.inr ⟨l, cs, o, hc, hb, by omega, by omega⟩, x, v1, (toD1_rep hcd v3 v2).ext hstm (fun _ _ _ => rfl)⟩

def kBodyF (R : AH → AV → Prop) (m : AH) (vs : List AV) : Prop :=
  ∃ (k : Nat) (ls : List (Loc × List DV)), vs = [.fn k (ls.map fun p => .ptr p.1 0)] ∧ (∀ p ∈ ls, ∃ cs, m.cells p.1 = some cs ∧ toDs cs = some p.2) ∧ R ⟨[], [], m.nx, m.lv⟩ (.fn k (ls.map fun p => .ept p.2))

def bodyQF (P : Program) (rs : List ResultVar) (R : AH → AV → Prop) : Exit → AS → Prop
  | .normal, σ => resK P σ rs (kBodyF R σ.m)
  | .ret, σ => resK P σ rs (kBodyF R σ.m)
  | _, _ => False

/-- A function that hands back a function; what that one bears stays as it is. -/
theorem PCall.of_bodyF {P : Program} {f : Nat} {fn : Func} {c : Code} {as : List AV} {R : AH → AV → Prop} {n : Nat} {rs : List ResultVar} (hf : P.funcs[f]? = some fn) (hb : fn.body = some c) (hn : fn.ntmps = n) (hrs : fn.results.toList = rs)
    (h : ∀ E, E.top → AW P E c (bodyQF P rs R) ⟨as ++ List.replicate (n - as.length) undefA, emptyH⟩) : PCall P f as R := by
  subst hn hrs
  unfold PCall
  intro st w vs hlaid hst hrep
  refine body_walk (kk := kBodyF R) hf hb rfl rfl rfl hlaid.kept (start_inv hst) hrep (AW_mono (h _ ⟨rfl, rfl⟩) fun e σ hq => ?_) ?_
  · cases e <;> exact hq
  · rintro G m w' us vs2 hi h2 ⟨k, ls, rfl, h3, h4⟩
    obtain ⟨G', g1, g2, g3⟩ := hi.sealB (fun _ => rfl)
    obtain ⟨l1, l2⟩ := h2
    obtain ⟨u, rfl⟩ := List.length_eq_one_iff.1 l1
    have hu := l2 0 _ u rfl rfl
    refine ⟨_, _, G', _, rfl, g1, ?_, ?_, h4⟩
    · show RepA G' w' _ u
      cases hu with
      | fn _ _ vs e1 e2 =>
        refine .fn k _ vs (by rw [e1]; simp) (fun i c v hc hv => ?_)
        rw [List.getElem?_map] at hc
        cases hp : ls[i]? with
        | none => rw [hp] at hc; cases hc
        | some p =>
          rw [hp] at hc
          cases hc
          obtain ⟨cs, q1, q2⟩ := h3 p (List.mem_of_getElem? hp)
          exact g3 p.1 cs p.2 v q1 q2 (e2 i _ v (by rw [List.getElem?_map, hp]; rfl) hv)
    · show (ls.map fun p => AV.ept p.2).all isEpt = true
      exact List.all_eq_true.2 fun c hc => by
        obtain ⟨p, _, rfl⟩ := List.mem_map.1 hc
        rfl

@[go_sem] theorem bodyQF_normal {P : Program} {rs : List ResultVar} {R : AH → AV → Prop} {σ : AS} : bodyQF P rs R .normal σ = resK P σ rs (kBodyF R σ.m) := (rfl)
@[go_sem] theorem bodyQF_ret {P : Program} {rs : List ResultVar} {R : AH → AV → Prop} {σ : AS} : bodyQF P rs R .ret σ = resK P σ rs (kBodyF R σ.m) := (rfl)
@[congr] theorem kBodyF_congr {R : AH → AV → Prop} {m m' : AH} {vs vs' : List AV} (h : m = m') (h2 : vs = vs') : kBodyF R m vs = kBodyF R m' vs' := by rw [h, h2]

end Go.AB

/- Iterators that make variables of their own ahead of the first round. -/
namespace Go.AB

/-- A variable of one's own as cells that stay; what bears none as it is. -/
def sealV (m : AH) : AV → Option AV
  | .ptr l 0 => match m.cells l with
    | some cs => match toDs cs with
      | some ds => some (.ept ds)
      | none => none
    | none => none
  | v => match port v with
    | true => some v
    | false => none
def sealS (m : AH) : List AV → Option (List AV)
  | [] => some []
  | v :: r => match sealV m v with
    | some u => match sealS m r with
      | some us => some (u :: us)
      | none => none
    | none => none

def preK (K : List AV → Prop) (m : AH) (s : List AV) : Prop := match sealS m s with
  | some s2 => K s2
  | none => False
def preQ (K : List AV → Prop) : Exit → AS → Prop
  | .normal, σ => preK K σ.m σ.s
  | _, _ => False

theorem nth_map {f : AV → AV} (h0 : f undefA = undefA) : ∀ (l : List AV) (t : Nat), nth (l.map f) t = f (nth l t)
  | [], t => by simp [nth, h0]
  | a :: l, 0 => rfl
  | a :: l, t + 1 => by simp only [List.map_cons, nth]; exact nth_map h0 l t

theorem port_lift {G G' : Gh} {w : World} (h : ∀ a x, portA a = true → RepA G w a x → RepA G' w a x) {v : AV} {x : Value} (hp : port v = true) (hr : RepA G w v x) : RepA G' w v x := by
  cases v with
  | tup vs =>
    cases hr with
    | tup _ us h1 h2 => exact .tup vs us h1 fun i c u hc hu => h c u (List.all_eq_true.1 (show vs.all portA = true from hp) c (List.mem_of_getElem? hc)) (h2 i c u hc hu)
  | _ => exact h _ _ hp hr

theorem sealV_rep {n : Nat} {G' G'' G2 : Gh} {m : AH} {w : World} (k2 : ∀ a x, portA a = true → RepA G' w a x → RepA G'' w a x) (k3 : ∀ l cs ds x, m.cells l = some cs → toDs cs = some ds → RepA G' w (.ptr l 0) x → RepA G'' w (.ept ds) x)
    (c3 : Shift n G'' G2) {v u : AV} {x : Value} (h : sealV m v = some u) (hr : RepA G' w v x) : RepA G2 w (shV n u) x := by
  have main : ∀ v : AV, (match port v with | true => some v | false => none) = some u → RepA G' w v x → RepA G2 w (shV n u) x := by
    intro v h hr
    split at h
    · rename_i hp
      cases h
      exact shV_rep c3 (port_lift k2 hp hr) hp
    · cases h
  unfold sealV at h
  split at h
  · rename_i l
    split at h
    · rename_i cs hc
      split at h
      · rename_i ds hds
        cases h
        exact shV_rep c3 (k3 l cs ds x hc hds hr) rfl
      · cases h
    · cases h
  · exact main _ h hr

theorem sealS_rep {n : Nat} {G' G'' G2 : Gh} {m : AH} {w : World} (k2 : ∀ a x, portA a = true → RepA G' w a x → RepA G'' w a x) (k3 : ∀ l cs ds x, m.cells l = some cs → toDs cs = some ds → RepA G' w (.ptr l 0) x → RepA G'' w (.ept ds) x)
    (c3 : Shift n G'' G2) : ∀ (s s2 : List AV), sealS m s = some s2 → s2.length = s.length ∧ ∀ t x, RepA G' w (nth s t) x → t < s.length → RepA G2 w (shV n (nth s2 t)) x
  | [], s2, h => by cases h; exact ⟨rfl, fun t x _ ht => absurd ht (by simp)⟩
  | v :: r, s2, h => by
    simp only [sealS] at h
    split at h
    · rename_i u hu
      split at h
      · rename_i us hus
        cases h
        obtain ⟨i1, i2⟩ := sealS_rep k2 k3 c3 r us hus
        refine ⟨by simp [i1], fun t x hr ht => ?_⟩
        cases t with
        | zero => exact sealV_rep k2 k3 c3 hu hr
        | succ t => exact i2 t x hr (Nat.lt_of_succ_lt_succ ht)
      · cases h
    · cases h

theorem stripL_len : ∀ (as bs : List AV), stripL as = some bs → bs.length = as.length
  | [], bs, h => by cases h; rfl
  | a :: as, bs, h => by
    simp only [stripL] at h
    split at h
    · split at h
      · rename_i hbs
        cases h
        simp [stripL_len as _ hbs]
      · cases h
    · cases h

theorem IW_pre {P : Program} {N : Env} {Nx : Code → Env} {a b : Code} {Q : Exit → AS → Prop} {Qx : Code → Exit → AS → Prop} {s s' : List AV} {m : AH} (hN : ItOk P N Nx) (hs : stripL s = some s')
    (h : ∀ E, AW P E a (preQ fun s2 => ∀ nx lv, m.nx ≤ nx → (∀ j, m.lv j → lv j) → IW P N Nx b Q Qx ⟨s2.map (shV m.nx), ⟨m.h, m.o, nx, lv⟩⟩) ⟨s', emptyH⟩) : IW P N Nx (.seq a b) Q Qx ⟨s, m⟩ := by
  intro A x w hsA hst
  obtain ⟨G, hi, hsz, hd, hr⟩ := hst
  obtain ⟨dsA, lkA⟩ := hsA.same (.inl hN.lk)
  rw [hN.ds] at dsA
  have hst : ∀ b o, G.st b o → b < w.heap.size := fun b o h => st_lt hi h
  obtain ⟨B0, hB0⟩ : ∃ B0 : Env, (⟨w, fun _ => False, gh0 G.st, none, [], []⟩ : Env).frame none [] A.lk = B0 := ⟨_, rfl⟩
  have hsub : Sub B0 B0 := by
    rw [← hB0]
    refine Sub.refl fun y hy => ?_
    obtain ⟨h1, h2, h3⟩ := hsA.there hi hy
    exact ⟨h1, fun x => x, h3, h2⟩
  have hT0 : TabsOk P B0 := by rw [← hB0]; exact TabsOk.frame ((hsA.tabs hN.T) w hi.kept).kept _ _ _
  have hrep : RepArgs G w s x.tmps.toList := by
    refine ⟨by simpa using hsz, fun i c v hc hv => ?_⟩
    have h1 := hr i
    have hlt := (List.getElem?_eq_some_iff.1 hc).1
    have h2 := nth_lt (l := s) hlt
    rw [hc] at h2
    cases h2
    rw [Array.getElem?_toList] at hv
    rw [Array.getD_eq_getD_getElem?, hv] at h1
    exact h1
  have hrep2 := stripL_rep _ _ _ hs hrep
  have hst0 : St B0 ⟨s', emptyH⟩ x w := by
    refine ⟨gh0 G.st, by rw [← hB0]; exact (start_inv hst).frame .., by rw [stripL_len _ _ hs]; exact hsz, by rw [hd, dsA, ← hB0]; rfl, fun t => ?_⟩
    by_cases ht : t < s'.length
    · have h1 := List.getElem?_eq_getElem ht
      have h2 : t < x.tmps.toList.length := by rw [hrep2.1]; exact ht
      have h3 := nth_lt (l := s') ht
      rw [h1] at h3
      have h5 := hrep2.2 t _ _ h1 (List.getElem?_eq_getElem h2)
      simp only [Option.some.injEq] at h3
      rw [← h3]
      have : x.tmps.getD t undef = x.tmps.toList[t] := by
        simp only [Array.length_toList] at h2
        simp [Array.getD_eq_getD_getElem?, h2]
      rw [this]
      exact h5
    · have h1 : nth s' t = undefA := nth_ge (by omega)
      have h2 : x.tmps.getD t undef = undef := by
        have hz : x.tmps.size ≤ t := by rw [hsz, ← stripL_len _ _ hs]; simpa using ht
        simp [Array.getD_eq_getD_getElem?, hz]
      rw [h1, h2]
      exact .raw _
  have hw := h B0
  unfold AW at hw
  have hw := hw hT0 B0 x w hsub hst0
  have hrd : B0.rd = none := by rw [← hB0]; rfl
  rw [hrd] at hw
  refine wpIn_seq (wpIn_mono hw ?_)
  rintro e a' w' ⟨B, σ', hsB, ⟨G', hi', hsz', hd', hr'⟩, hq⟩
  cases e with
  | normal => ?_
  | _ => exact hq.elim
  have lk0 : B0.lk ≠ [] := by rw [← hB0]; show A.lk ≠ []; rw [lkA]; exact hN.lk
  have dsB : B.ds = [] := by rw [(hsB.same (.inl lk0)).1, ← hB0]; rfl
  have i1 : Inv ⟨w, fun _ => False, gh0 G.st, none, [], []⟩ G' σ'.m w' := by
    have := hsB.inv _ _ _ hi'
    rw [← hB0] at this
    exact this.unframe
  obtain ⟨G'', k1, k2, k3⟩ := i1.sealB (fun _ => rfl)
  obtain ⟨G2, c1, c2, c3⟩ := hi.call k1
  have hq : preK _ σ'.m σ'.s := hq
  unfold preK at hq
  split at hq
  · rename_i s2 hs2
    obtain ⟨q1, q2⟩ := sealS_rep k2 k3 c3 _ _ hs2
    refine hq (m.nx + σ'.m.nx) (fun j => m.lv j ∨ (m.nx ≤ j ∧ σ'.m.lv (j - m.nx))) (Nat.le_add_right _ _) (fun j hj => .inl hj) A a' w' hsA ⟨G2, c2, by rw [List.length_map, q1]; exact hsz', by rw [hd', dsB, dsA], fun t => ?_⟩
    show RepA G2 w' (nth (s2.map (shV m.nx)) t) _
    rw [nth_map rfl]
    by_cases ht : t < σ'.s.length
    · exact q2 t _ (hr' t) ht
    · have h1 : nth s2 t = undefA := nth_ge (by omega)
      have h2 : a'.tmps.getD t undef = undef := by
        have hz : a'.tmps.size ≤ t := by omega
        simp [Array.getD_eq_getD_getElem?, hz]
      rw [h1, h2]
      exact .raw _
  · exact hq.elim

@[go_sem] theorem preQ_normal {K : List AV → Prop} {σ : AS} : preQ K .normal σ = preK K σ.m σ.s := (rfl)
@[congr] theorem preK_congr {K : List AV → Prop} {m m' : AH} {s s' : List AV} (h : m = m') (h2 : s = s') : preK K m s = preK K m' s' := by rw [h, h2]

end Go.AB

/- Iterators: loops by slots; how walks that yield are reckoned with. -/
namespace Go.AB

section
variable {P : Program} {N : Env} {Nx : Code → Env}

theorem IW_loopH {b : Code} {Q : Exit → AS → Prop} {Qx : Code → Exit → AS → Prop} {s0 : List AV} {m0 : AH} {α : Type} (W : List Nat) (J : α → (Nat → AV) → AH → Prop) (μ : α → Nat) (x0 : α) (h0 : J x0 (nth s0) m0)
    (round : ∀ x ρ m, J x ρ m → ∀ Q' : Exit → AS → Prop, (∀ σ, Q' .normal σ = LoopEnd s0 W J μ x σ) → (∀ σ, Q' .ret σ = Q .ret σ) → (∀ id σ, Q' (.exit id) σ = Q (.exit id) σ) →
      IW P N Nx b Q' (fun c => thenQ (fun _ => False) (Qx c)) ⟨mask s0 W ρ, m⟩) : IW P N Nx (.loop b) Q Qx ⟨s0, m0⟩ := by
  refine IW_loop (fun x σ => σ.s = mask s0 W (nth σ.s) ∧ J x (nth σ.s) σ.m) μ x0 ⟨(mask_self W s0).symm, h0⟩ ?_
  rintro x ⟨s, m⟩ ⟨h1, h2⟩
  simp only at h1 h2
  have := round x (nth s) m h2 (thenQ (LoopEnd s0 W J μ x) Q) (fun _ => rfl) (fun _ => rfl) (fun _ _ => rfl)
  rw [← h1] at this
  refine IW_mono this ?_ (fun _ _ _ h => h)
  intro e σ h
  cases e with
  | normal =>
    obtain ⟨h3, y, h4, h5⟩ := h
    exact ⟨y, ⟨h3, h4⟩, h5⟩
  | _ => exact h

@[congr] theorem IW_congr {c : Code} {Q : Exit → AS → Prop} {Qx : Code → Exit → AS → Prop} {σ σ' : AS} (h : σ = σ') : IW P N Nx c Q Qx σ = IW P N Nx c Q Qx σ' := by rw [h]
end

@[go_sem] theorem itQ_normal {n : Nat} {J : Nat → AH → Prop} {σ : AS} : itQ n J .normal σ = J n σ.m := (rfl)
@[go_sem] theorem itQ_ret {n : Nat} {J : Nat → AH → Prop} {σ : AS} : itQ n J .ret σ = J n σ.m := (rfl)
@[go_sem] theorem itX_normal {Jx : Code → AH → Prop} {c : Code} {σ : AS} : itX Jx c .normal σ = Jx c σ.m := (rfl)
@[go_sem] theorem itX_ret {Jx : Code → AH → Prop} {c : Code} {σ : AS} : itX Jx c .ret σ = Jx c σ.m := (rfl)
@[go_sem] theorem roundQ_normal {J : Nat → AH → Prop} {Jx : Code → AH → Prop} {k : Nat} {σ : AS} : roundQ J Jx k .normal σ = J (k + 1) σ.m := (rfl)
@[go_sem] theorem roundQ_ret {J : Nat → AH → Prop} {Jx : Code → AH → Prop} {k : Nat} {σ : AS} : roundQ J Jx k .ret σ = Jx .ret σ.m := (rfl)
@[go_sem] theorem roundQ_exit {J : Nat → AH → Prop} {Jx : Code → AH → Prop} {k id : Nat} {σ : AS} : roundQ J Jx k (.exit id) σ = Jx (.exit id) σ.m := (rfl)

theorem setPs_1 {s : List AV} {p : Nat} {x : AV} : setPs s [p] [x] = s.set p x := (rfl)
theorem setPs_2 {s : List AV} {p q : Nat} {x y : AV} : setPs s [p, q] [x, y] = (s.set p x).set q y := (rfl)
attribute [go_sem] setPs_1 setPs_2

theorem PCall.of_bodyRE {P : Program} {f : Nat} {fn : Func} {c : Code} {as : List AV} {r : AV} {n : Nat} {rs : List ResultVar} (hf : P.funcs[f]? = some fn) (hb : fn.body = some c) (hn : fn.ntmps = n) (hrs : fn.results.toList = rs)
    (h : ∀ E, E.top → AW P E c (bodyQ P rs (RE r)) ⟨as ++ List.replicate (n - as.length) undefA, emptyH⟩) : PCall P f as (RV r) :=
  (PCall.of_bodyR hf hb hn hrs h).erased fun _ _ h => h

end Go.AB
