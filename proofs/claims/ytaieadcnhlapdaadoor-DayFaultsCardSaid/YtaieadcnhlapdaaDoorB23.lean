/- Calls that write: what a function is handed, and what comes back. -/
import Derived.Test.YtaieadcnhlapdaaDoorB10
namespace Go.AB
open Classical

/-- Values with their variables named anew. -/
def rnC (f : Loc → Option Loc) : AV → Option AV
  | .ptr k off => match f k with
    | some l => some (.ptr l off)
    | none => none
  | .msl k off len cap => match f k with
    | some l => some (.msl l off len cap)
    | none => none
  | .mref k => match f k with
    | some l => some (.mref l)
    | none => none
  | .bref k => match f k with
    | some l => some (.bref l)
    | none => none
  | .mapc ks vs => match ks.all portA && vs.all portA with
    | true => some (.mapc ks vs)
    | false => none
  | c => match port1 c with
    | true => some c
    | false => none

def rnCL (f : Loc → Option Loc) : List AV → Option (List AV)
  | [] => some []
  | c :: cs => match rnC f c with
    | some d => match rnCL f cs with
      | some ds => some (d :: ds)
      | none => none
    | none => none

def rnA (f : Loc → Option Loc) : AV → Option AV
  | .agg cs => match rnCL f cs with
    | some ds => some (.agg ds)
    | none => none
  | .fn k cs => match rnCL f cs with
    | some ds => some (.fn k ds)
    | none => none
  | c => rnC f c

def rnAL (f : Loc → Option Loc) : List AV → Option (List AV)
  | [] => some []
  | c :: cs => match rnA f c with
    | some d => match rnAL f cs with
      | some ds => some (d :: ds)
      | none => none
    | none => none

def rnV (f : Loc → Option Loc) : AV → Option AV
  | .tup cs => match rnAL f cs with
    | some ds => some (.tup ds)
    | none => none
  | v => rnA f v

def rnLL (f : Loc → Option Loc) : List (List AV) → Option (List (List AV))
  | [] => some []
  | c :: cs => match rnCL f c with
    | some d => match rnLL f cs with
      | some ds => some (d :: ds)
      | none => none
    | none => none

structure Ren (f : Loc → Option Loc) (G G' : Gh) : Prop where
  st : ∀ b o, G.st b o → G'.st b o
  bx : ∀ k l x, f k = some l → G.bx k = some x → G'.bx l = some x
  tk : G'.tk = G.tk
  nx : G'.nx = G.nx

section
variable {f : Loc → Option Loc} {G G' : Gh} {w : World}
theorem rnC_rep (r : Ren f G G') {c d : AV} {v : Value} (h : RepA G w c v) (hc : rnC f c = some d) : RepA G' w d v := by
  cases h with
  | int k n => cases hc; exact .int _ _
  | bool b => cases hc; exact .bool _
  | str s => cases hc; exact .str _
  | raw => cases hc; exact .raw _
  | sl z es t A c h1 h2 =>
    cases hc
    refine .sl z es t A c (h1.ext r.st (fun _ _ _ => rfl)) ?_
    cases t with
    | no => trivial
    | nil => exact h2
    | own i => exact ⟨by rw [r.nx]; exact h2.1, fun x hx => h2.2 x (by rw [← r.tk]; exact hx)⟩
  | ept cs b o h => cases hc; exact .ept cs b o (h.ext r.st (fun _ _ _ => rfl))
  | ptr k off b o h h0 =>
    simp only [rnC] at hc
    split at hc
    · rename_i l hl
      cases hc
      exact .ptr l off b o (r.bx _ _ _ hl h) h0
    · cases hc
  | mref k b h =>
    simp only [rnC] at hc
    split at hc
    · rename_i l hl
      cases hc
      exact .mref l b (r.bx _ _ _ hl h)
    · cases hc
  | bref k b h =>
    simp only [rnC] at hc
    split at hc
    · rename_i l hl
      cases hc
      exact .bref l b (r.bx _ _ _ hl h)
    · cases hc
  | msl k off len cap b o h h0 h1 h2 =>
    simp only [rnC] at hc
    split at hc
    · rename_i l hl
      cases hc
      exact .msl l off len cap b o (r.bx _ _ _ hl h) h0 h1 h2
    · cases hc
  | iface t a x h =>
    simp only [rnC] at hc
    split at hc
    · rename_i hp
      cases hc
      cases h with
      | int => exact .iface _ _ _ (.int _ _)
      | bool => exact .iface _ _ _ (.bool _)
      | str => exact .iface _ _ _ (.str _)
      | _ => cases hp
    · cases hc
  | agg => cases hc
  | tup => cases hc
  | fn => cases hc

theorem rnCL_get : ∀ {cs ds : List AV}, rnCL f cs = some ds → ds.length = cs.length ∧ ∀ (i : Nat) (d : AV), ds[i]? = some d → ∃ c, cs[i]? = some c ∧ rnC f c = some d
  | [], ds, h => by cases h; exact ⟨rfl, by simp⟩
  | c :: cs, ds, h => by
    simp only [rnCL] at h
    split at h
    · rename_i d hd
      split at h
      · rename_i ds' hds
        cases h
        obtain ⟨h1, h2⟩ := rnCL_get hds
        refine ⟨by simp [h1], fun i e he => ?_⟩
        cases i with
        | zero => simp at he; subst he; exact ⟨c, rfl, hd⟩
        | succ i => exact h2 i e (by simpa using he)
      · cases h
    · cases h

theorem rnLL_get : ∀ {cs ds : List (List AV)}, rnLL f cs = some ds → ds.length = cs.length ∧ ∀ (i : Nat) (d : List AV), ds[i]? = some d → ∃ c, cs[i]? = some c ∧ rnCL f c = some d
  | [], ds, h => by cases h; exact ⟨rfl, by simp⟩
  | c :: cs, ds, h => by
    simp only [rnLL] at h
    split at h
    · rename_i d hd
      split at h
      · rename_i ds' hds
        cases h
        obtain ⟨h1, h2⟩ := rnLL_get hds
        refine ⟨by simp [h1], fun i e he => ?_⟩
        cases i with
        | zero => simp at he; subst he; exact ⟨c, rfl, hd⟩
        | succ i => exact h2 i e (by simpa using he)
      · cases h
    · cases h

theorem rnA_rep (r : Ren f G G') {c d : AV} {v : Value} (h : RepA G w c v) (hc : rnA f c = some d) : RepA G' w d v := by
  cases c <;> first | exact rnC_rep r h hc | skip
  · rename_i cs
    simp only [rnA] at hc
    split at hc
    · rename_i ds hds
      cases hc
      obtain ⟨h1, h2⟩ := rnCL_get hds
      cases h with
      | agg _ vs g1 g2 g3 =>
        refine .agg ds vs (by rw [g1, h1]) g2 (fun i c v hc hv => ?_)
        obtain ⟨a, ha, hd⟩ := h2 i c hc
        exact rnC_rep r (g3 i a v ha hv) hd
    · cases hc
  · rename_i k cs
    simp only [rnA] at hc
    split at hc
    · rename_i ds hds
      cases hc
      obtain ⟨h1, h2⟩ := rnCL_get hds
      cases h with
      | fn _ _ vs g1 g3 =>
        refine .fn k ds vs (by rw [g1, h1]) (fun i c v hc hv => ?_)
        obtain ⟨a, ha, hd⟩ := h2 i c hc
        exact rnC_rep r (g3 i a v ha hv) hd
    · cases hc

theorem rnC_port {c : AV} (h : port1 c = true) : rnC f c = some c := by
  cases c <;> first | (cases h; done) | (simp only [rnC, h]) | rfl

theorem rnCL_port : ∀ {cs : List AV}, cs.all port1 = true → rnCL f cs = some cs
  | [], _ => rfl
  | c :: cs, h => by
    simp only [List.all_cons, Bool.and_eq_true] at h
    simp only [rnCL, rnC_port h.1, rnCL_port h.2]

theorem rnA_port {c : AV} (h : portA c = true) : rnA f c = some c := by
  cases c with
  | agg cs => simp only [rnA, rnCL_port (show cs.all port1 = true from h)]
  | fn k cs => cases h
  | _ => (simp only [rnA]; refine rnC_port (f := f) ?_; exact h)

theorem EntsAt.ren (r : Ren f G G') {ks vs : List AV} {es : List MapEntry} (h : EntsAt G w ks vs es) (hk : ks.all portA = true) (hv : vs.all portA = true) : EntsAt G' w ks vs es := by
  refine ⟨h.1, h.2.1, fun i k v e h1 h2 h3 => ?_⟩
  obtain ⟨g1, g2⟩ := h.2.2 i k v e h1 h2 h3
  exact ⟨rnA_rep r g1 (rnA_port (List.all_eq_true.1 hk k (List.mem_of_getElem? h1))), rnA_rep r g2 (rnA_port (List.all_eq_true.1 hv v (List.mem_of_getElem? h2)))⟩

theorem MapAt.ren (r : Ren f G G') {E E' : Env} {b : Nat} {cs ds : List AV} (h : MapAt E G w b cs) (hc : rnCL f cs = some ds) : MapAt E' G' w b ds := by
  rcases h with ⟨ks, vs, es, cl, rfl, h2, h3⟩ | ⟨T, e, s, p, v, rfl, _⟩
  rotate_left
  · simp [rnCL, rnC, port1] at hc
  simp only [rnCL, rnC] at hc
  split at hc
  · rename_i d hd
    split at hd
    · rename_i hp
      cases hd
      cases hc
      simp only [Bool.and_eq_true] at hp
      exact .inl ⟨ks, vs, es, cl, rfl, h2, h3.ren r hp.1 hp.2⟩
    · cases hd
  · cases hc

theorem CellsAt.ren (r : Ren f G G') {b o : Nat} {cs ds : List AV} (h : CellsAt G w b o cs) (hc : rnCL f cs = some ds) : CellsAt G' w b o ds := fun j d hd => by
  obtain ⟨a, ha, had⟩ := (rnCL_get hc).2 j d hd
  obtain ⟨f1, v, f2, f3, f4⟩ := h j a ha
  exact ⟨f1, v, f2, f3, rnC_rep r f4 had⟩

theorem rnAL_get : ∀ {cs ds : List AV}, rnAL f cs = some ds → ds.length = cs.length ∧ ∀ (i : Nat) (d : AV), ds[i]? = some d → ∃ c, cs[i]? = some c ∧ rnA f c = some d
  | [], ds, h => by cases h; exact ⟨rfl, by simp⟩
  | c :: cs, ds, h => by
    simp only [rnAL] at h
    split at h
    · rename_i d hd
      split at h
      · rename_i ds' hds
        cases h
        obtain ⟨h1, h2⟩ := rnAL_get hds
        refine ⟨by simp [h1], fun i e he => ?_⟩
        cases i with
        | zero => simp at he; subst he; exact ⟨c, rfl, hd⟩
        | succ i => exact h2 i e (by simpa using he)
      · cases h
    · cases h

theorem rnAL_rep (r : Ren f G G') {cs ds : List AV} {vs : List Value} (h : RepArgs G w cs vs) (hc : rnAL f cs = some ds) : RepArgs G' w ds vs := by
  obtain ⟨h1, h2⟩ := rnAL_get hc
  refine ⟨by rw [h.1, h1], fun i d v hd hv => ?_⟩
  obtain ⟨c, hc, hr⟩ := h2 i d hd
  exact rnA_rep r (h.2 i c v hc hv) hr

theorem rnV_rep (r : Ren f G G') {c d : AV} {v : Value} (h : RepA G w c v) (hc : rnV f c = some d) : RepA G' w d v := by
  cases c <;> first | exact rnA_rep r h hc | skip
  rename_i cs
  simp only [rnV] at hc
  split at hc
  · rename_i ds hds
    cases hc
    obtain ⟨h1, h2⟩ := rnAL_get hds
    cases h with
    | tup _ vs g1 g3 =>
      refine .tup ds vs (by rw [g1, h1]) (fun i c v hc hv => ?_)
      obtain ⟨a, ha, hd⟩ := h2 i c hc
      exact rnA_rep r (g3 i a v ha hv) hd
  · cases hc
end

def idxL : List Loc → Loc → Option Nat
  | [], _ => none
  | k :: ls, l => if k = l then some 0 else match idxL ls l with
    | some i => some (i + 1)
    | none => none

theorem idxL_get : ∀ {ls : List Loc} {l : Loc} {i : Nat}, idxL ls l = some i → ls[i]? = some l
  | [], l, i, h => by cases h
  | k :: ls, l, i, h => by
    simp only [idxL] at h
    split at h
    · rename_i hk; cases h; simp [hk]
    · split at h
      · rename_i j hj
        cases h
        simpa using idxL_get hj
      · cases h

/-- No variable twice. -/
def IdxOk (ls : List Loc) : Prop := ∀ i l, ls[i]? = some l → idxL ls l = some i

def outF (ls : List Loc) (l : Loc) : Option Loc := match idxL ls l with
  | some i => some (.out i)
  | none => none

def cellsL (m : AH) : List Loc → Option (List (List AV))
  | [] => some []
  | l :: ls => match m.cells l with
    | some c => match cellsL m ls with
      | some cs => some (c :: cs)
      | none => none
    | none => none

theorem cellsL_get {m : AH} : ∀ {ls : List Loc} {cs : List (List AV)}, cellsL m ls = some cs → cs.length = ls.length ∧ ∀ (i : Nat) (l : Loc), ls[i]? = some l → ∃ c, cs[i]? = some c ∧ m.cells l = some c
  | [], cs, h => by cases h; exact ⟨rfl, by simp⟩
  | l :: ls, cs, h => by
    simp only [cellsL] at h
    split at h
    · rename_i c hc
      split at h
      · rename_i cs' hcs
        cases h
        obtain ⟨h1, h2⟩ := cellsL_get hcs
        refine ⟨by simp [h1], fun i k hk => ?_⟩
        cases i with
        | zero => simp at hk; subst hk; exact ⟨c, rfl, hc⟩
        | succ i => exact h2 i k (by simpa using hk)
      · cases h
    · cases h

/-- The ghost that the called function starts with. -/
def handG (ls : List Loc) (G : Gh) : Gh where
  st := G.st
  bx := fun l => match l with
    | .out i => match ls[i]? with
      | some k => G.bx k
      | none => none
    | .own _ _ => none
  tk := G.tk
  nx := G.nx
  who := fun b => match G.who b with
    | some (.inl l) => (match idxL ls l with
      | some i => some (.inl (.out i))
      | none => none)
    | x => x

def handE (ls : List Loc) (E : Env) (G : Gh) (w : World) : Env where
  w0 := w
  may := fun b => (E.may b ∨ E.w0.heap.size ≤ b) ∧ ((∃ l, l ∈ ls ∧ G.who b = some (.inl l)) ∨ ∃ j, G.who b = some (.inr j))
  g0 := handG ls G

theorem handRen {ls : List Loc} {G : Gh} : Ren (outF ls) G (handG ls G) := by
  refine ⟨fun _ _ h => h, fun k l x hk hx => ?_, rfl, rfl⟩
  unfold outF at hk
  split at hk
  · rename_i i hi
    cases hk
    simp only [handG, idxL_get hi]
    exact hx
  · cases hk

theorem Inv.hand {E : Env} {G : Gh} {m : AH} {w : World} (h : Inv E G m w) {ls : List Loc} {css ds : List (List AV)} (hok : IdxOk ls) (hc : cellsL m ls = some css) (hr : rnLL (outF ls) css = some ds) :
    Inv (handE ls E G w) (handG ls G) ⟨[], ds, m.nx, m.lv⟩ w := by
  obtain ⟨c1, c2⟩ := cellsL_get hc
  obtain ⟨r1, r2⟩ := rnLL_get hr
  refine ⟨⟨rfl, rfl, rfl, Nat.le_refl _, fun _ _ _ => rfl⟩, fun l cs hl => ?_, fun t g _ => rfl, fun i hi => ?_, h.lt, h.nx, fun b hb => ?_, Ext.refl _ _, fun b o hs _ => .inl hs⟩
  · cases l with
    | own t g => simp [AH.cells, hget] at hl
    | out i =>
      simp only [AH.cells] at hl
      obtain ⟨c, hci, hcr⟩ := r2 i cs hl
      have hil : i < ls.length := by rw [← c1]; exact (List.getElem?_eq_some_iff.1 hci).1
      have hli := List.getElem?_eq_getElem hil
      obtain ⟨c', hc', hcm⟩ := c2 i _ hli
      rw [hci] at hc'
      cases hc'
      obtain ⟨b, o, h1, h2, h3, h4, h5⟩ := h.box _ _ hcm
      exact ⟨b, o, by simp only [handG, hli]; exact h1, by simp only [handG, h2, hok i _ hli], .inl ⟨h3, .inl ⟨_, List.getElem_mem hil, h2⟩⟩, h4, fun h0 => (h5.1 h0).ren handRen hcr, fun h0 => (h5.2 h0).ren handRen hcr⟩
  · rcases h.tok i hi with ht | ⟨b, o, n, c, z, cells, ty, t1, t2, t3, t4⟩
    · exact .inl ht
    · exact .inr ⟨b, o, n, c, z, cells, ty, t1, by simp only [handG, t2], .inl ⟨t3, .inr ⟨i, t2⟩⟩, t4⟩
  · obtain ⟨h1, h2⟩ := h.fresh b hb
    exact ⟨by simp only [handG, h1], h2⟩


theorem setCells_cells {m : AH} {l : Loc} {c0 : List AV} (cs : List AV) (h : m.cells l = some c0) (l2 : Loc) : (m.setCells l cs).cells l2 = if l = l2 then some cs else m.cells l2 := by
  cases l with
  | own t g =>
    have hg : hget m.h t = some (g, c0) := by
      simp only [AH.cells] at h
      cases hh : hget m.h t with
      | none => rw [hh] at h; cases h
      | some x =>
        obtain ⟨g3, cs3⟩ := x
        rw [hh] at h
        simp only at h
        split at h
        · rename_i e; cases h; rw [e]
        · cases h
    cases l2 with
    | out k => simp [AH.cells, AH.setCells]
    | own t2 g2 =>
      simp only [AH.setCells, AH.cells]
      by_cases ht : t = t2
      · subst ht
        rw [hget_set_self, hg]
        by_cases hgg : g = g2
        · subst hgg; simp
        · have : ¬ g2 = g := fun e => hgg e.symm
          simp [this, hgg]
      · rw [hget_set_ne _ _ _ ht]
        have : ¬ (Loc.own t g = Loc.own t2 g2) := fun e => ht (by cases e; rfl)
        rw [if_neg this]
  | out k =>
    cases l2 with
    | own t2 g2 => simp [AH.cells, AH.setCells]
    | out k2 =>
      simp only [AH.setCells, AH.cells] at h ⊢
      have hk : k < m.o.length := (List.getElem?_eq_some_iff.1 h).1
      by_cases hkk : k = k2
      · subst hkk; rw [List.getElem?_set_self hk]; simp
      · rw [List.getElem?_set_ne hkk]; simp [hkk]

theorem setCells_gen {m : AH} {l : Loc} {c0 : List AV} (cs : List AV) (h : m.cells l = some c0) (t : Nat) : (hget (m.setCells l cs).h t).map (·.1) = (hget m.h t).map (·.1) := by
  cases l with
  | own t2 g =>
    simp only [AH.cells] at h
    simp only [AH.setCells]
    by_cases ht : t2 = t
    · subst ht
      rw [hget_set_self]
      cases hh : hget m.h t2 with
      | none => rw [hh] at h; cases h
      | some x =>
        obtain ⟨g3, cs3⟩ := x
        rw [hh] at h
        simp only at h
        split at h
        · rename_i e; simp [e]
        · cases h
    · rw [hget_set_ne _ _ _ ht]
  | out k => rfl

def AH.setAll : AH → List Loc → List (List AV) → AH
  | m, l :: ls, c :: cs => (m.setCells l c).setAll ls cs
  | m, _, _ => m

theorem IdxOk.tail {k : Loc} {ls : List Loc} (h : IdxOk (k :: ls)) : IdxOk ls ∧ idxL ls k = none := by
  have key : ∀ i l, ls[i]? = some l → k ≠ l ∧ idxL ls l = some i := by
    intro i l hl
    have := h (i + 1) l (by simpa using hl)
    simp only [idxL] at this
    split at this
    · cases this
    · rename_i hk
      split at this
      · rename_i j hj
        cases this
        exact ⟨hk, hj⟩
      · cases this
  refine ⟨fun i l hl => (key i l hl).2, ?_⟩
  cases hi : idxL ls k with
  | none => rfl
  | some i => exact absurd rfl (key i k (idxL_get hi)).1

theorem setAll_cells : ∀ (ls : List Loc) (cs : List (List AV)) (m : AH), IdxOk ls → cs.length = ls.length → (∀ l ∈ ls, ∃ c, m.cells l = some c) → ∀ l, (m.setAll ls cs).cells l = match idxL ls l with
    | some i => cs[i]?
    | none => m.cells l
  | [], cs, m, _, _, _, l => by simp [AH.setAll, idxL]
  | k :: ls, [], m, _, hl, _, l => by simp at hl
  | k :: ls, c :: cs, m, hok, hlen, hlive, l => by
    obtain ⟨h1, h2⟩ := hok.tail
    obtain ⟨c0, hc0⟩ := hlive k (List.mem_cons_self ..)
    simp only [AH.setAll]
    rw [setAll_cells ls cs (m.setCells k c) h1 (by simpa using hlen) (fun l hl => by
      rw [setCells_cells c hc0]
      split
      · exact ⟨_, rfl⟩
      · exact hlive l (List.mem_cons_of_mem _ hl)) l]
    simp only [idxL]
    rw [setCells_cells c hc0]
    by_cases hk : k = l
    · subst hk
      rw [h2]
      simp
    · simp only [hk, if_false]
      cases idxL ls l with
      | none => rfl
      | some i => simp

theorem setAll_gen : ∀ (ls : List Loc) (cs : List (List AV)) (m : AH), (∀ l ∈ ls, ∃ c, m.cells l = some c) → ∀ t, (hget (m.setAll ls cs).h t).map (·.1) = (hget m.h t).map (·.1)
  | [], cs, m, _, t => by simp [AH.setAll]
  | k :: ls, [], m, _, t => by simp [AH.setAll]
  | k :: ls, c :: cs, m, hlive, t => by
    obtain ⟨c0, hc0⟩ := hlive k (List.mem_cons_self ..)
    simp only [AH.setAll]
    rw [setAll_gen ls cs (m.setCells k c) (fun l hl => by
      rw [setCells_cells c hc0]
      split
      · exact ⟨_, rfl⟩
      · exact hlive l (List.mem_cons_of_mem _ hl)) t]
    exact setCells_gen c hc0 t

/-- Where the caller finds a variable of the called function. -/
def backF (ls : List Loc) (ad : Option Loc) (l0 : Loc) : Loc → Option Loc
  | .out i => ls[i]?
  | .own t g => if ad = some (.own t g) then some l0 else none

def backM (m m' : AH) (ls : List Loc) (cs : List (List AV)) (ad : Option Loc) (T : Nat) (c0 : List AV) : AH := match ad with
  | none => ⟨(m.setAll ls cs).h, (m.setAll ls cs).o, m'.nx, m'.lv⟩
  | some _ => ⟨hset (m.setAll ls cs).h T (gnext m T) c0, (m.setAll ls cs).o, m'.nx, m'.lv⟩

theorem gnext_none {m : AH} {T : Nat} : m.cells (.own T (gnext m T)) = none := by
  have h : ∀ g, gnext m T = g → m.cells (.own T g) = none := by
    intro g hg
    simp only [AH.cells]
    cases hh : hget m.h T with
    | none => rfl
    | some x =>
      obtain ⟨g', cs⟩ := x
      simp only [gnext, hh] at hg
      have : ¬ g = g' := by omega
      simp [this]
  exact h _ rfl

theorem Inv.back {E : Env} {G G' : Gh} {m m' : AH} {w w' : World} (h : Inv E G m w) {ls : List Loc} {css cs2 : List (List AV)} {T : Nat} {ad : Option Loc} {c0 : List AV} (hok : IdxOk ls) (hc : cellsL m ls = some css)
    (hi : Inv (handE ls E G w) G' m' w') (hb : rnLL (backF ls ad (.own T (gnext m T))) m'.o = some cs2) (hlen : cs2.length = ls.length)
    (ha : ∀ k, ad = some k → (∃ t g, k = .own t g) ∧ ∃ cs', m'.cells k = some cs' ∧ rnCL (backF ls ad (.own T (gnext m T))) cs' = some c0) :
    ∃ G2, Ext G w G2 w' ∧ Inv E G2 (backM m m' ls cs2 ad T c0) w' ∧ Ren (backF ls ad (.own T (gnext m T))) G' G2 := by
  generalize hl0 : Loc.own T (gnext m T) = l0 at *
  have hfree : m.cells l0 = none := by rw [← hl0]; exact gnext_none
  have hbx0 : G.bx l0 = none := by
    rw [← hl0]
    apply h.gen
    simp only [gnext]
    cases hg : hget m.h T with
    | none => exact .inl rfl
    | some x => obtain ⟨g', cs'⟩ := x; exact .inr ⟨g', cs', rfl, by simp⟩
  obtain ⟨c1, c2⟩ := cellsL_get hc
  have hlive : ∀ l ∈ ls, ∃ c, m.cells l = some c := fun l hl => by
    obtain ⟨i, hi⟩ := List.getElem?_of_mem hl
    obtain ⟨c, _, hc⟩ := c2 i l hi
    exact ⟨c, hc⟩
  let f := backF ls ad l0
  let kept : Nat → Prop := fun b => ∃ l, l ∉ ls ∧ G.who b = some (.inl l)
  let whoB : Option (Loc ⊕ Nat) → Option (Loc ⊕ Nat) := fun x => match x with
    | some (.inl k) => (f k).map .inl
    | some (.inr j) => some (.inr j)
    | none => none
  let G2 : Gh := { st := G'.st, bx := fun l => if l = l0 ∧ ad ≠ none then ad.bind G'.bx else G.bx l, tk := G'.tk, nx := G'.nx, who := fun b => if kept b then G.who b else whoB (G'.who b) }
  have hsz : w.heap.size ≤ w'.heap.size := hi.kept.size
  have hold : ∀ l c, m.cells l = some c → G2.bx l = G.bx l := fun l c hl => by
    have : ¬ (l = l0 ∧ ad ≠ none) := fun e => by rw [e.1, hfree] at hl; cases hl
    simp only [G2, this, if_false]
  have houtbx : ∀ i l x, ls[i]? = some l → G'.bx (.out i) = some x → G.bx l = some x := fun i l x hl hx => by
    obtain ⟨c, hcm⟩ := hlive l (List.mem_of_getElem? hl)
    obtain ⟨b, o, h1, _⟩ := h.box l c hcm
    have := hi.ext.bx (.out i) (b, o) (by simp only [handE, handG, hl]; exact h1)
    rw [hx] at this
    cases this
    exact h1
  have hmay : ∀ b, (handE ls E G w).may b ∨ w.heap.size ≤ b → ¬ kept b := fun b hb hk => by
    obtain ⟨l, hl, hw⟩ := hk
    rcases hb with ⟨_, ⟨l', hl', hw'⟩ | ⟨j, hw'⟩⟩ | hb
    · rw [hw] at hw'; cases hw'; exact hl hl'
    · rw [hw] at hw'; cases hw'
    · have := who_lt h hw; omega
  have hren : Ren f G' G2 := by
    refine ⟨fun _ _ x => x, fun k l x hk hx => ?_, rfl, rfl⟩
    cases k with
    | out i =>
      obtain ⟨c, hcm⟩ := hlive l (List.mem_of_getElem? hk)
      rw [hold l c hcm]
      exact houtbx i l x hk hx
    | own t g =>
      simp only [f, backF] at hk
      split at hk
      · rename_i e
        cases hk
        have : G2.bx l0 = ad.bind G'.bx := by simp [G2, e]
        rw [this, e]
        exact hx
      · cases hk
  have hext : Ext G w G2 w' := by
    refine ⟨hi.ext.st, hi.ext.cell, fun l x hx => ?_, hi.ext.nx, hi.ext.tk⟩
    have : ¬ (l = l0 ∧ ad ≠ none) := fun e => by rw [e.1, hbx0] at hx; cases hx
    simp only [G2, this, if_false]
    exact hx
  have hheap : ∀ b, b < w.heap.size → ¬ (handE ls E G w).may b → w'.heap[b]? = w.heap[b]? := fun b h1 h2 => hi.kept.block b h1 h2
  have hst1 : ∀ b o, G'.st b o → b < w.heap.size → G.st b o ∨ (handE ls E G w).may b := fun b o hs hb => hi.st1 b o hs hb
  have hm2 := setAll_cells ls cs2 m hok hlen hlive
  have hgen2 := setAll_gen ls cs2 m hlive
  -- every variable that the caller has now
  have hcells : ∀ l cs, (backM m m' ls cs2 ad T c0).cells l = some cs → (∃ k cs', f k = some l ∧ m'.cells k = some cs' ∧ rnCL f cs' = some cs) ∨ (m.cells l = some cs ∧ l ∉ ls) := by
    have base : ∀ l cs, (m.setAll ls cs2).cells l = some cs → (∃ k cs', f k = some l ∧ m'.cells k = some cs' ∧ rnCL f cs' = some cs) ∨ (m.cells l = some cs ∧ l ∉ ls) := by
      intro l cs hcs
      rw [hm2 l] at hcs
      cases hidx : idxL ls l with
      | some i =>
        rw [hidx] at hcs
        left
        obtain ⟨a, ha1, ha2⟩ := (rnLL_get hb).2 i cs hcs
        exact ⟨.out i, a, idxL_get hidx, ha1, ha2⟩
      | none =>
        rw [hidx] at hcs
        right
        refine ⟨hcs, fun hl => ?_⟩
        obtain ⟨i, hi⟩ := List.getElem?_of_mem hl
        rw [hok i l hi] at hidx
        cases hidx
    intro l cs hcs
    cases had : ad with
    | none =>
      subst had
      exact base l cs (by cases l <;> exact hcs)
    | some k =>
      obtain ⟨⟨t, g, rfl⟩, cs', hk1, hk2⟩ := ha k had
      subst had
      simp only [backM] at hcs
      cases l with
      | out i => exact base (.out i) cs hcs
      | own t2 g2 =>
        simp only [AH.cells] at hcs
        by_cases ht : T = t2
        · subst ht
          rw [hget_set_self] at hcs
          simp only at hcs
          split at hcs
          · rename_i e
            cases hcs
            left
            refine ⟨.own t g, cs', ?_, hk1, hk2⟩
            simp only [f, backF, if_true]
            rw [← hl0, e]
          · cases hcs
        · rw [hget_set_ne _ _ _ ht] at hcs
          exact base (.own t2 g2) cs hcs
  refine ⟨G2, hext, ⟨?_, fun l cs hcs => ?_, fun t g hg => ?_, fun i hl => ?_, fun i hl => ?_, ?_, fun b hb => ?_, h.ext.trans hext, fun b o hs hb => ?_⟩, hren⟩
  · refine h.kept.heap hi.kept.os hi.kept.tape hi.kept.output hi.kept.size (fun b hb hm => hheap b (Nat.lt_of_lt_of_le hb h.kept.size) (fun hm' => ?_))
    rcases hm'.1 with h1 | h1
    · exact hm h1
    · omega
  · rcases hcells l cs hcs with ⟨k, cs', hk, hk1, hk2⟩ | ⟨h1, h2⟩
    · obtain ⟨b, o, g1, g2, g3, g4, g5⟩ := hi.box k cs' hk1
      have hnk := hmay b g3
      refine ⟨b, o, hren.bx k l _ hk g1, ?_, ?_, g4, fun h0 => (g5.1 h0).ren hren hk2, fun h0 => (g5.2 h0).ren hren hk2⟩
      · simp only [G2, hnk, if_false, g2, whoB, hk, Option.map_some]
      · rcases g3 with g3 | g3
        · exact g3.1
        · exact .inr (Nat.le_trans h.kept.size g3)
    · refine (h.box l cs h1).same hext (fun b hwb => ?_)
      have hk : kept b := ⟨l, h2, hwb⟩
      have hnm : ¬ (handE ls E G w).may b := fun hm => hmay b (.inl hm) hk
      refine ⟨by simp only [G2, hk, if_true]; exact hwb, fun j hj => (hst1 b j hj (who_lt h hwb)).resolve_right hnm, hheap b (who_lt h hwb) hnm⟩
  · have hne : ∀ t g, (hget m.h t = none ∨ ∃ g' cs, hget m.h t = some (g', cs) ∧ g' < g) → ¬ (Loc.own t g = l0 ∧ ad ≠ none) → G2.bx (.own t g) = none := fun t g hh hn => by
      simp only [G2, hn, if_false]
      exact h.gen t g hh
    have conv : (hget (m.setAll ls cs2).h t = none ∨ ∃ g' cs, hget (m.setAll ls cs2).h t = some (g', cs) ∧ g' < g) → (hget m.h t = none ∨ ∃ g' cs, hget m.h t = some (g', cs) ∧ g' < g) := by
      have e := hgen2 t
      rintro (hx | ⟨g', cs, hx, hlt⟩)
      · rw [hx] at e
        cases hm : hget m.h t with
        | none => exact .inl rfl
        | some y => rw [hm] at e; cases e
      · rw [hx] at e
        cases hm : hget m.h t with
        | none => rw [hm] at e; cases e
        | some y =>
          obtain ⟨g1, cs1⟩ := y
          rw [hm] at e
          simp only [Option.map_some, Option.some.injEq] at e
          subst e
          exact .inr ⟨_, cs1, rfl, hlt⟩
    cases had : ad with
    | none =>
      subst had
      exact hne t g (conv hg) (fun e => e.2 rfl)
    | some k =>
      subst had
      simp only [backM] at hg
      by_cases ht : T = t
      · subst ht
        rw [hget_set_self] at hg
        rcases hg with hg | ⟨g', cs, hg, hlt⟩
        · cases hg
        · cases hg
          refine hne T g ?_ (fun e => ?_)
          · simp only [gnext] at hlt
            cases hm : hget m.h T with
            | none => exact .inl rfl
            | some y =>
              obtain ⟨g1, cs1⟩ := y
              rw [hm] at hlt
              simp only at hlt
              exact .inr ⟨g1, cs1, rfl, by omega⟩
          · have := hl0.trans e.1.symm
            cases this
            exact Nat.lt_irrefl _ hlt
      · rw [hget_set_ne _ _ _ ht] at hg
        refine hne t g (conv hg) (fun e => ?_)
        have := hl0.trans e.1.symm
        cases this
        exact ht rfl
  · have hl' : m'.lv i := by cases ad <;> exact hl
    rcases hi.tok i hl' with ht | ⟨b, o, n, c, z, cells, ty, t1, t2, t3, t4⟩
    · exact .inl ht
    · have hnk := hmay b t3
      refine .inr ⟨b, o, n, c, z, cells, ty, t1, by simp only [G2, hnk, if_false, t2, whoB], ?_, t4⟩
      rcases t3 with t3 | t3
      · exact t3.1
      · exact .inr (Nat.le_trans h.kept.size t3)
  · have hl' : m'.lv i := by cases ad <;> exact hl
    have := hi.lt i hl'
    cases ad <;> exact this
  · have := hi.nx
    cases ad <;> exact this
  · obtain ⟨h1, h2⟩ := hi.fresh b hb
    refine ⟨?_, h2⟩
    have hnk : ¬ kept b := fun ⟨l, _, hw⟩ => by have := who_lt h hw; omega
    simp only [G2, hnk, if_false, h1, whoB]
  · rcases hst1 b o hs (Nat.lt_of_lt_of_le hb h.kept.size) with h1 | h1
    · exact h.st1 b o h1 hb
    · rcases h1.1 with h2 | h2
      · exact .inr h2
      · omega

theorem TabsOk.hand {P : Program} {E : Env} {G : Gh} {m : AH} {w : World} {ls : List Loc} (hT : TabsOk P E) (h : Inv E G m w) : TabsOk P (handE ls E G w) := fun w' k => by
  refine hT w' (h.kept.heap k.os k.tape k.output k.size (fun b hb hm => k.block b (Nat.lt_of_lt_of_le hb h.kept.size) (fun hm' => ?_)))
  rcases hm'.1 with h1 | h1
  · exact hm h1
  · omega

/-- What a call comes to that may write what it was handed. -/
def QCall (P : Program) (f : Nat) (m0 : AH) (as : List AV) (R : AH → AV → Prop) : Prop :=
  ∀ (E : Env) (G : Gh) (w : World) (vs : List Value), TabsOk P E → E.w0 = w → E.g0 = G → Inv E G m0 w → RepArgs G w as vs →
    Calls P f vs.toArray w fun e w' => ∃ v r G' m', e = .returned v ∧ Inv E G' m' w' ∧ RepA G' w' r v ∧ R m' r

attribute [irreducible] QCall

/-- What is to be shown of a call that may write what it is handed. -/
def effK (P : Program) (k : Nat) (args : List AV) (σ : AS) (dst : Option Nat) (K : AS → Prop) : Prop :=
  ∃ ls as css ds R, rnAL (outF ls) args = some as ∧ cellsL σ.m ls = some css ∧ rnLL (outF ls) css = some ds ∧ IdxOk ls ∧ QCall P k ⟨[], ds, σ.m.nx, σ.m.lv⟩ as R ∧
    ∀ m' r, R m' r → ∃ ad T c0 cs2 r2, rnLL (backF ls ad (.own T (gnext σ.m T))) m'.o = some cs2 ∧ cs2.length = ls.length ∧
      (∀ k, ad = some k → (∃ t g, k = .own t g) ∧ ∃ cs', m'.cells k = some cs' ∧ rnCL (backF ls ad (.own T (gnext σ.m T))) cs' = some c0) ∧
      rnV (backF ls ad (.own T (gnext σ.m T))) r = some r2 ∧ K (AS.put ⟨σ.s, backM σ.m m' ls cs2 ad T c0⟩ dst r2)

theorem effK_ok {P : Program} {E : Env} {k : Nat} {args : List AV} {σ : AS} {dst : Option Nat} {K : AS → Prop} {G : Gh} {w : World} {vs : List Value} (hT : TabsOk P E) (h : effK P k args σ dst K) (hi : Inv E G σ.m w) (hr : RepArgs G w args vs) :
    Calls P k vs.toArray w fun e w' => ∃ v m2 r2 G2, e = .returned v ∧ Ext G w G2 w' ∧ Inv E G2 m2 w' ∧ RepA G2 w' r2 v ∧ K (AS.put ⟨σ.s, m2⟩ dst r2) := by
  obtain ⟨ls, as, css, ds, R, h1, h2, h3, h4, h5, h6⟩ := h
  unfold QCall at h5
  refine (h5 (handE ls E G w) (handG ls G) w vs (hT.hand hi) rfl rfl (hi.hand h4 h2 h3) (rnAL_rep handRen hr h1)).mono ?_
  rintro e w' ⟨v, r, G', m', rfl, g1, g2, g3⟩
  obtain ⟨ad, T, c0, cs2, r2, k1, k2, k3, k4, k5⟩ := h6 m' r g3
  obtain ⟨G2, e1, e2, e3⟩ := hi.back h4 h2 g1 k1 k2 k3
  exact ⟨v, _, r2, G2, rfl, e1, e2, rnV_rep e3 g2 k4, k5⟩

attribute [irreducible] effK

end Go.AB
