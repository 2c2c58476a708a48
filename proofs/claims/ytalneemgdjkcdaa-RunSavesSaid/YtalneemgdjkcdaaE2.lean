/- The runner's table of ways: the contract of into, and calls that hand the runner on. -/
import Derived.Test.YtalneemgdjkcdaaE1
import Derived.Test.YtalneemgdjkcdaaB27
namespace Go.Proofs.Ytalneemgdjkcdaa
open Go.AB

/-- An entry of a table of ways: the target, how many speeds there are, and the mark. -/
structure Ent where
  t : Int
  n : Nat
  i : Nat

def tab (d t : Int) (n : Nat) : List DV := (List.range n).map fun (v : Nat) => DV.int .i64 (into d t v)
def keysM (M : List Ent) : List AV := M.map fun e => AV.int .i64 e.t
def valsM (d : Int) (M : List Ent) : List AV := M.map fun e => AV.sl 1 (tab d e.t e.n) (.own e.i)
def Good (lv : Nat → Prop) (M : List Ent) : Prop := (∀ e ∈ M, lv e.i) ∧ (M.map (·.i)).Nodup

theorem tab_len (d t : Int) (n : Nat) : (tab d t n).length = n := by simp [tab]
theorem tab_get {d t : Int} {n v : Nat} (h : v < n) : (tab d t n)[v]? = some (.int .i64 (into d t v)) := by
  simp [tab, h]
theorem tab_succ (d t : Int) (n : Nat) : tab d t n ++ [.int .i64 (into d t n)] = tab d t (n + 1) := by
  simp [tab, List.range_succ]
theorem tab_zero (d t : Int) : tab d t 0 = [] := rfl

theorem keys_ok (M : List Ent) : (keysM M).all (keyA Try.prog 3) = true := by
  simp only [keysM, List.all_map, List.all_eq_true]
  intro e _
  simp only [Function.comp, go_sem]

def entOf : List Ent → Int → Option Ent
  | [], _ => none
  | e :: M, t => if e.t = t then some e else entOf M t
def upd : List Ent → Ent → List Ent
  | [], x => [x]
  | e :: M, x => if e.t = x.t then x :: M else e :: upd M x

theorem mget_M (d : Int) : ∀ (M : List Ent) (t : Int), mget (keysM M) (valsM d M) (.int .i64 t) = (entOf M t).map fun e => AV.sl 1 (tab d e.t e.n) (.own e.i)
  | [], t => rfl
  | e :: M, t => by
    simp only [keysM, valsM, List.map_cons, mget, entOf, AV.int.injEq, true_and]
    by_cases h : e.t = t
    · simp [h]
    · simp only [h, if_false]
      exact mget_M d M t
theorem mset_M (d : Int) : ∀ (M : List Ent) (x : Ent), mset (keysM M) (valsM d M) (.int .i64 x.t) (.sl 1 (tab d x.t x.n) (.own x.i)) = (keysM (upd M x), valsM d (upd M x))
  | [], x => rfl
  | e :: M, x => by
    have ih := mset_M d M x
    simp only [keysM, valsM, List.map_cons, mset, upd, AV.int.injEq, true_and] at ih ⊢
    by_cases h : e.t = x.t
    · simp [h]
    · simp only [h, if_false, ih, List.map_cons]
theorem mset_M' (d : Int) (M : List Ent) (t : Int) (n i : Nat) : mset (keysM M) (valsM d M) (.int .i64 t) (.sl 1 (tab d t n) (.own i)) = (keysM (upd M ⟨t, n, i⟩), valsM d (upd M ⟨t, n, i⟩)) := mset_M d M ⟨t, n, i⟩
theorem entOf_spec : ∀ {M : List Ent} {t : Int} {e : Ent}, entOf M t = some e → e ∈ M ∧ e.t = t
  | e0 :: M, t, e, h => by
    simp only [entOf] at h
    split at h
    · rename_i h0; cases h; exact ⟨List.mem_cons_self .., h0⟩
    · exact ⟨List.mem_cons_of_mem _ (entOf_spec h).1, (entOf_spec h).2⟩
/-- What stands in a table behind a change. -/
theorem upd_mem : ∀ {M : List Ent} {x e : Ent}, e ∈ upd M x → e = x ∨ (e ∈ M ∧ ∀ y, entOf M x.t = some y → (M.map (·.i)).Nodup → e.i ≠ y.i)
  | [], x, e, h => by simp [upd] at h; exact .inl h
  | e0 :: M, x, e, h => by
    simp only [upd] at h
    split at h
    · rename_i h0
      rcases List.mem_cons.1 h with h | h
      · exact .inl h
      · refine .inr ⟨List.mem_cons_of_mem _ h, fun y hy hn => ?_⟩
        simp only [entOf, h0, if_true, Option.some.injEq] at hy
        subst hy
        simp only [List.map_cons, List.nodup_cons] at hn
        intro e1
        exact hn.1 (List.mem_map.2 ⟨e, h, e1⟩)
    · rename_i h0
      rcases List.mem_cons.1 h with h | h
      · subst h
        refine .inr ⟨List.mem_cons_self .., fun y hy hn => ?_⟩
        simp only [entOf, h0, if_false] at hy
        simp only [List.map_cons, List.nodup_cons] at hn
        intro e1
        exact hn.1 (List.mem_map.2 ⟨y, (entOf_spec hy).1, e1.symm⟩)
      · rcases upd_mem h with h1 | ⟨h1, h2⟩
        · exact .inl h1
        · refine .inr ⟨List.mem_cons_of_mem _ h1, fun y hy hn => ?_⟩
          simp only [entOf, h0, if_false] at hy
          exact h2 y hy (by simp only [List.map_cons, List.nodup_cons] at hn; exact hn.2)
theorem upd_key : ∀ {M : List Ent} {x e : Ent}, e ∈ upd M x → e.t = x.t ∨ e ∈ M
  | [], x, e, h => by simp [upd] at h; exact .inl (by rw [h])
  | e0 :: M, x, e, h => by
    simp only [upd] at h
    split at h
    · rcases List.mem_cons.1 h with h | h
      · exact .inl (by rw [h])
      · exact .inr (List.mem_cons_of_mem _ h)
    · rcases List.mem_cons.1 h with h | h
      · exact .inr (by rw [h]; exact List.mem_cons_self ..)
      · exact (upd_key h).imp id (List.mem_cons_of_mem _)
theorem upd_good : ∀ {M : List Ent} {x : Ent}, (M.map (·.i)).Nodup → (M.map (·.t)).Nodup → (∀ e ∈ M, e.i ≠ x.i ∨ e.t = x.t) → ((upd M x).map (·.i)).Nodup ∧ ((upd M x).map (·.t)).Nodup
  | [], x, _, _, _ => by simp [upd]
  | e0 :: M, x, hn, ht, hx => by
    simp only [List.map_cons, List.nodup_cons] at hn ht
    simp only [upd]
    split
    · rename_i h0
      simp only [List.map_cons, List.nodup_cons]
      refine ⟨⟨fun h => ?_, hn.2⟩, fun h => ?_, ht.2⟩
      · obtain ⟨e, he, h1⟩ := List.mem_map.1 h
        rcases hx e (List.mem_cons_of_mem _ he) with h2 | h2
        · exact h2 h1
        · exact ht.1 (List.mem_map.2 ⟨e, he, h2.trans h0.symm⟩)
      · rw [← h0] at h; exact ht.1 h
    · rename_i h0
      obtain ⟨g1, g2⟩ := upd_good hn.2 ht.2 (fun e he => hx e (List.mem_cons_of_mem _ he))
      simp only [List.map_cons, List.nodup_cons]
      refine ⟨⟨fun h => ?_, g1⟩, fun h => ?_, g2⟩
      · obtain ⟨e, he, h1⟩ := List.mem_map.1 h
        rcases upd_mem he with h2 | ⟨h2, _⟩
        · subst h2
          rcases hx e0 (List.mem_cons_self ..) with h3 | h3
          · exact h3 h1.symm
          · exact h0 h3
        · exact hn.1 (List.mem_map.2 ⟨e, h2, h1⟩)
      · obtain ⟨e, he, h1⟩ := List.mem_map.1 h
        rcases upd_key he with h2 | h2
        · exact h0 (h1.symm.trans h2)
        · exact ht.1 (List.mem_map.2 ⟨e, h2, h1⟩)

def nOf (M : List Ent) (t : Int) : Nat := ((entOf M t).map (·.n)).getD 0
def tokOf (M : List Ent) (t : Int) : Tok := ((entOf M t).map fun e => Tok.own e.i).getD .nil

def sCells (s : Stock) (r : List AV) : List AV := .str s.name :: .int .i64 s.len :: .int .i64 s.mass :: .int .i64 s.start :: .int .i64 s.power :: .int .i64 s.roll :: .int .i64 s.drag :: .int .i64 s.brake :: .int .i64 s.top :: .int .i64 s.seats :: r
def rcell (s : Stock) (ways bs : List DV) (bt : Tok) (fin top : Int) (l : AB.Loc) : List AV := sCells s [.sl 3 ways .no, .sl 1 bs bt, .int .i64 fin, .int .i64 top, .mref l]

/-- What a call leaves of the marks. -/
structure Keep (lv : Nat → Prop) (M : List Ent) (lv' : Nat → Prop) (M' : List Ent) : Prop where
  live : ∀ j, lv j → (∀ e ∈ M, e.i ≠ j) → lv' j
  apart : ∀ j, lv j → (∀ e ∈ M, e.i ≠ j) → ∀ e ∈ M', e.i ≠ j
theorem Keep.refl (lv : Nat → Prop) (M : List Ent) : Keep lv M lv M := ⟨fun _ h _ => h, fun _ _ h => h⟩
theorem Keep.trans {lv lv' lv'' : Nat → Prop} {M M' M'' : List Ent} (h : Keep lv M lv' M') (k : Keep lv' M' lv'' M'') : Keep lv M lv'' M'' :=
  ⟨fun j h1 h2 => k.live j (h.live j h1 h2) (h.apart j h1 h2), fun j h1 h2 => k.apart j (h.live j h1 h2) (h.apart j h1 h2)⟩
structure GoodM (lv : Nat → Prop) (M : List Ent) : Prop where
  live : ∀ e ∈ M, lv e.i
  one : (M.map (·.i)).Nodup
  key : (M.map (·.t)).Nodup
  small : ∀ e ∈ M, e.n ≤ 6001

/-- It hands back this value, and leaves the runner with another table. -/
def outR (d : Int) (rc : List AV) (nx : Nat) (lv : Nat → Prop) (M : List Ent) (r0 : AV) : AH → AV → Prop := fun m r =>
  r = r0 ∧ ∃ M', m.o = [rc, [.mapc (keysM M') (valsM d M')]] ∧ GoodM m.lv M' ∧ nx ≤ m.nx ∧ Keep lv M m.lv M'

theorem rcell_rn {f : AB.Loc → Option AB.Loc} {s : Stock} {ways bs : List DV} {bt : Tok} {fin top : Int} {l l' : AB.Loc} (h : f l = some l') : rnCL f (rcell s ways bs bt fin top l) = some (rcell s ways bs bt fin top l') := by
  simp only [rcell, sCells, rnCL, rnC, port1, h]
theorem map_rn {f : AB.Loc → Option AB.Loc} {d : Int} {M : List Ent} : rnCL f [.mapc (keysM M) (valsM d M)] = some [.mapc (keysM M) (valsM d M)] := by
  have h1 : (keysM M).all portA = true := by simp [keysM, portA, port1]
  have h2 : (valsM d M).all portA = true := by simp [valsM, portA, port1]
  simp only [rnCL, rnC, h1, h2, Bool.and_true]

theorem callR {k : Nat} {s : Stock} {ways bs : List DV} {bt : Tok} {fin top : Int} {M : List Ent} {rest : List AV} {r0 : AV} {σ : AS} {dst : Option Nat} {K : AS → Prop} {lr lm : AB.Loc}
    (h : QCall Try.prog k ⟨[], [rcell s ways bs bt fin top (.out 1), [.mapc (keysM M) (valsM (s.brake - 40) M)]], σ.m.nx, σ.m.lv⟩ (.ptr (.out 0) 0 :: rest) (outR (s.brake - 40) (rcell s ways bs bt fin top (.out 1)) σ.m.nx σ.m.lv M r0))
    (hrest : ∀ f, rnAL f rest = some rest) (hr0 : ∀ f, rnV f r0 = some r0) (hne : lr ≠ lm)
    (hr : σ.m.cells lr = some (rcell s ways bs bt fin top lm)) (hm : σ.m.cells lm = some [.mapc (keysM M) (valsM (s.brake - 40) M)])
    (hK : ∀ M' nx2 lv2, GoodM lv2 M' → σ.m.nx ≤ nx2 → Keep σ.m.lv M lv2 M' →
      K (AS.put ⟨σ.s, ⟨((σ.m.setCells lr (rcell s ways bs bt fin top lm)).setCells lm [.mapc (keysM M') (valsM (s.brake - 40) M')]).h, ((σ.m.setCells lr (rcell s ways bs bt fin top lm)).setCells lm [.mapc (keysM M') (valsM (s.brake - 40) M')]).o, nx2, lv2⟩⟩ dst r0)) :
    effX Try.prog k (.ptr lr 0 :: rest) σ dst K := by
  have hne' : ¬ lr = lm := hne
  refine effH [lr, lm] (css := [rcell s ways bs bt fin top lm, [.mapc (keysM M) (valsM (s.brake - 40) M)]]) ?_ ?_ ?_ (.two hne) h ?_
  · simp only [rnAL, rnA, rnC, outF, idxL, if_true, hrest]
  · simp only [cellsL, hr, hm]
  · simp only [rnLL, rcell_rn (f := outF [lr, lm]) (l := lm) (l' := .out 1) (by simp [outF, idxL, hne']), map_rn]
  · rintro m' r ⟨rfl, M', ho, hG, hx, hk⟩
    refine ⟨[rcell s ways bs bt fin top lm, [.mapc (keysM M') (valsM (s.brake - 40) M')]], r, ?_, rfl, hr0 _, ?_⟩
    · rw [ho]
      simp only [rnLL, rcell_rn (f := backF [lr, lm] none (.own 0 (gnext σ.m 0))) (l := .out 1) (l' := lm) rfl, map_rn]
    · exact hK M' _ _ hG hx hk

theorem mgK_M {d : Int} {M : List Ent} {t : Int} {K : AV → Prop} : mgK false (.sl 1 [] .nil) K ((entOf M t).map fun e => AV.sl 1 (tab d e.t e.n) (.own e.i)) = K (.sl 1 (tab d t (nOf M t)) (tokOf M t)) := by
  cases h : entOf M t with
  | none => simp only [nOf, tokOf, h, Option.map_none, Option.getD_none, tab_zero, go_sem]
  | some e =>
    obtain ⟨_, rfl⟩ := entOf_spec h
    simp only [nOf, tokOf, h, Option.map_some, Option.getD_some, go_sem]

/-- The mark of the table that grows. -/
def TokT (lv : Nat → Prop) (nx n0 : Nat) (tok0 : Tok) (n : Nat) (tok : Tok) (lv' : Nat → Prop) : Prop :=
  (n = n0 ∧ tok = tok0 ∧ ∀ j, lv j → lv' j) ∨ ∃ i, tok = .own i ∧ nx ≤ i ∧ lv' i ∧ ∀ j, lv j → tok0 ≠ .own j → lv' j

theorem tokOf_ok {lv : Nat → Prop} {M : List Ent} {t : Int} {h o nx} (hM : GoodM lv M) : okT ⟨h, o, nx, lv⟩ (tokOf M t) := by
  unfold tokOf
  cases he : entOf M t with
  | none => simp only [Option.map_none, Option.getD_none, go_sem]
  | some e => simp only [Option.map_some, Option.getD_some, go_sem]; exact hM.live e (entOf_spec he).1

theorem nodup_eq : ∀ {M : List Ent} {x y : Ent}, (M.map (·.i)).Nodup → x ∈ M → y ∈ M → x.i = y.i → x = y
  | [], x, y, _, h, _, _ => by cases h
  | e :: M, x, y, hn, hx, hy, h => by
    simp only [List.map_cons, List.nodup_cons] at hn
    rcases List.mem_cons.1 hx with h1 | h1 <;> rcases List.mem_cons.1 hy with h2 | h2
    · rw [h1, h2]
    · subst h1; exact absurd (List.mem_map.2 ⟨y, h2, h.symm⟩) hn.1
    · subst h2; exact absurd (List.mem_map.2 ⟨x, h1, h⟩) hn.1
    · exact nodup_eq hn.2 h1 h2 h

theorem TokT.grow {lv lv' lv2 : Nat → Prop} {nx n0 n k : Nat} {tok0 tok : Tok} (h : TokT lv nx n0 tok0 n tok lv') (hx : nx ≤ k) (hlt : ∀ j, lv j → j < nx) (hk : lv2 k) (hl : ∀ j, lv' j → tok ≠ .own j → lv2 j) : TokT lv nx n0 tok0 (n + 1) (.own k) lv2 := by
  refine .inr ⟨k, rfl, hx, hk, fun j hj h0 => ?_⟩
  rcases h with ⟨_, h2, h3⟩ | ⟨i, h1, h2, _, h4⟩
  · exact hl j (h3 j hj) (by rw [h2]; exact h0)
  · refine hl j (h4 j hj h0) ?_
    rw [h1]
    intro e
    cases e
    have := hlt _ hj
    omega

theorem upd_done {lv lv' : Nat → Prop} {M : List Ent} {t : Int} {nx n : Nat} {tok : Tok} (hM : GoodM lv M) (hlt : ∀ j, lv j → j < nx) (hT : TokT lv nx (nOf M t) (tokOf M t) n tok lv') (hn : 0 < n) (hn2 : n ≤ 6001) :
    ∃ i, tok = .own i ∧ GoodM lv' (upd M ⟨t, n, i⟩) ∧ Keep lv M lv' (upd M ⟨t, n, i⟩) := by
  have hi : ∃ i, tok = .own i ∧ lv' i ∧ ((∃ y, entOf M t = some y ∧ i = y.i) ∨ nx ≤ i) ∧ ∀ j, lv j → (∀ y, entOf M t = some y → y.i ≠ j) → lv' j := by
    rcases hT with ⟨h1, h2, h3⟩ | ⟨i, h1, h2, h3, h4⟩
    · unfold nOf at h1
      unfold tokOf at h2
      cases he : entOf M t with
      | none => rw [he] at h1; simp at h1; omega
      | some y =>
        rw [he] at h2
        simp at h2
        exact ⟨y.i, h2, h3 _ (hM.live y (entOf_spec he).1), .inl ⟨y, rfl, rfl⟩, fun j hj _ => h3 j hj⟩
    · refine ⟨i, h1, h3, .inr h2, fun j hj hy => h4 j hj ?_⟩
      unfold tokOf
      cases he : entOf M t with
      | none => simp
      | some y => simp; exact hy y he
  obtain ⟨i, h1, h2, h3, h4⟩ := hi
  have hu := upd_good (x := ⟨t, n, i⟩) hM.one hM.key (fun e he => by
    rcases h3 with ⟨y, hy, rfl⟩ | h3
    · by_cases hey : e.i = y.i
      · right
        have : e = y := by
          exact nodup_eq hM.one he (entOf_spec hy).1 hey
        rw [this]; exact (entOf_spec hy).2
      · exact .inl hey
    · left
      have := hlt _ (hM.live e he)
      simp only; omega)
  refine ⟨i, h1, ⟨fun e he => ?_, hu.1, hu.2, fun e he => ?_⟩, fun j hj hn => ?_, fun j hj hn e he => ?_⟩
  · rcases upd_mem he with rfl | ⟨h5, h6⟩
    · exact h2
    · exact h4 _ (hM.live e h5) (fun y hy => Ne.symm (h6 y hy hM.one))
  · rcases upd_mem he with rfl | ⟨h5, _⟩
    · exact hn2
    · exact hM.small e h5
  · exact h4 j hj (fun y hy => hn y (entOf_spec hy).1)
  · rcases upd_mem he with rfl | ⟨h5, _⟩
    · rcases h3 with ⟨y, hy, rfl⟩ | h3
      · exact hn y (entOf_spec hy).1
      · have := hlt j hj; simp only; omega
    · exact hn e h5

set_option maxRecDepth 20000 in
theorem into128 (s : Stock) (ways bs : List DV) (bt : Tok) (fin top : Int) (M : List Ent) (nx : Nat) (lv : Nat → Prop) (v t : Int) (hc : checkS s = 0) (h1 : 0 ≤ v) (h2 : v ≤ 6000) (h3 : 0 ≤ t) (h4 : t ≤ 6000) (hM : GoodM lv M) :
    QCall Try.prog 128 ⟨[], [rcell s ways bs bt fin top (.out 1), [.mapc (keysM M) (valsM (s.brake - 40) M)]], nx, lv⟩ [.ptr (.out 0) 0, .int .i64 v, .int .i64 t] (outR (s.brake - 40) (rcell s ways bs bt fin top (.out 1)) nx lv M (.int .i64 (into (s.brake - 40) t v))) := by
  refine QCall.lt fun hlt => ?_
  simp only at hlt
  refine QCall.of_body Try.func128 rfl Try.ntmps128 (congrArg Array.toList Try.results128) ?_
  intro E
  have hk := checkS_ok hc
  simp only [go_sem, rcell, sCells, keys_ok, mget_M, mgK_M, tab_len]
  refine ⟨fun hvt => ?_, fun hvt => ?_⟩
  · exact ⟨by rw [into_end (by omega)], M, rfl, hM, Nat.le_refl _, Keep.refl _ _⟩
  have hn0 : nOf M t ≤ 6001 := by
    unfold nOf
    cases he : entOf M t with
    | none => simp
    | some e => simp; exact hM.small e (entOf_spec he).1
  refine AW_loopS [7, 8, 9, 10, 22, 23, 24, 25, 26, 27, 28, 29, 30, 31, 32, 33, 34, 35, 36, 37, 38, 39, 40, 41, 42, 43, 44, 45, 46, 47, 48, 49, 50, 51]
    (fun (x : Nat × Tok) ρ m => ρ 7 = .sl 1 (tab (s.brake - 40) t x.1) x.2 ∧ ρ 8 = .int .i64 (x.1 : Int) ∧ nOf M t ≤ x.1 ∧ x.1 ≤ 6001 ∧ okT m x.2 ∧
      ∃ nx' lv', m = ⟨[], [rcell s ways bs bt fin top (.out 1), [.mapc (keysM M) (valsM (s.brake - 40) M)]], nx', lv'⟩ ∧ nx ≤ nx' ∧ TokT lv nx (nOf M t) (tokOf M t) x.1 x.2 lv') (fun x => 6001 - x.1) (nOf M t, tokOf M t) ?_ ?_
  · simp only [go_sem, rcell, sCells]
    exact ⟨hn0, tokOf_ok hM, nx, lv, rfl, Nat.le_refl _, .inl ⟨rfl, rfl, fun _ h => h⟩⟩
  · rintro ⟨n, tok⟩ ρ m ⟨e7, e8, g1, g2, g3, nx', lv', rfl, g4, g5⟩
    dsimp only at e7 e8 g1 g2 g3 g5
    simp (disch := omega) only [go_sem, e7, e8, rcell, sCells, keys_ok, tab_len, i64_in]
    refine ⟨fun hle => ⟨fun hgt => ?_, fun hngt => ?_⟩, fun hnle => ?_⟩
    · have e : into (s.brake - 40) t n = goneF n (max t (n - (s.brake - 40))) + into (s.brake - 40) t (max t (n - (s.brake - 40))) := into_step hgt (by omega)
      have hb := into_bd (s.brake - 40) t (max t (n - (s.brake - 40))) h3 (by omega) (by omega)
      have hg : 0 ≤ goneF n (max t (n - (s.brake - 40))) ∧ goneF n (max t (n - (s.brake - 40))) ≤ 100000 := by unfold goneF; omega
      refine drawn (by kernel_rfl) (by kernel_rfl) ?_
      simp only [go_sem]
      refine quietD (gone108 _ _ (by omega) (by omega) (by omega) (by omega)) (fun _ => rfl) ?_
      have hget : (tab (s.brake - 40) t n)[(max t (n - (s.brake - 40))).toNat]? = some (.int .i64 (into (s.brake - 40) t (max t (n - (s.brake - 40))))) := by
        rw [tab_get (by omega)]
        rw [show (((max t (n - (s.brake - 40))).toNat : Nat) : Int) = max t (n - (s.brake - 40)) from by omega]
      simp (disch := omega) only [go_sem, hget, i64_in]
      refine ⟨by omega, fun nx2 lv2 q1 q2 => ?_⟩
      simp (disch := omega) only [go_sem, tab_len, i64_in]
      refine ⟨okT_mono g3 (fun j hj => .inr (q2 j hj)), by omega, by kernel_rfl, (n + 1, .own (nx2 + 1)), ?_, by simp only; omega⟩
      simp only [go_sem, rcell, sCells]
      rw [← tab_succ, e]
      refine ⟨rfl, by simp, by omega, by omega, .inl trivial, _, _, rfl, by omega, g5.grow (by omega) hlt (.inl rfl) (fun j hj ht => .inr ⟨.inr (q2 j hj), ht⟩)⟩
    · have e : into (s.brake - 40) t n = 0 := into_end hngt
      refine ⟨okT_mono g3 (fun j hj => .inr hj), by omega, by kernel_rfl, (n + 1, .own (nx' + 1)), ?_, by simp only; omega⟩
      simp only [go_sem, rcell, sCells]
      rw [← tab_succ, e]
      refine ⟨rfl, by simp, by omega, by omega, .inl trivial, _, _, rfl, by omega, g5.grow (by omega) hlt (.inl rfl) (fun j hj ht => .inr ⟨.inr hj, ht⟩)⟩
    · obtain ⟨i, rfl, k1, k2⟩ := upd_done hM hlt g5 (by omega) g2
      have hget : (tab (s.brake - 40) t n)[v.toNat]? = some (.int .i64 (into (s.brake - 40) t v)) := by
        rw [tab_get (by omega)]
        rw [show ((v.toNat : Nat) : Int) = v from by omega]
      simp (disch := omega) only [go_sem, mset_M', hget]
      exact ⟨h1, rfl, _, rfl, k1, g4, k2⟩
end Go.Proofs.Ytalneemgdjkcdaa
