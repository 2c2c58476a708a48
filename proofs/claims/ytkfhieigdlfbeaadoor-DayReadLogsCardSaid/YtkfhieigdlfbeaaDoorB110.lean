/- Calls that write: what a function is handed, and what comes back. -/
import Derived.Test.YtkfhieigdlfbeaaDoorB100
import Derived.MapKept
namespace Go.AB
open Classical

/-- Values with their variables named anew; no functions. -/
def rnC0 (f : Loc → Option Loc) : AV → Option AV
  | .ptr k off => match f k with
    | some l => some (.ptr l off)
    | none => none
  | .msl k off len cap => match f k with
    | some l => some (.msl l off len cap)
    | none => none
  | .mref k => match f k with
    | some l => some (.mref l)
    | none => none
  | .bref k => match f k with
    | some l => some (.bref l)
    | none => none
  | .mapc ks vs => match ks.all portA && vs.all portA with
    | true => some (.mapc ks vs)
    | false => none
  | c => match port1 c with
    | true => some c
    | false => none

def rnCL0 (f : Loc → Option Loc) : List AV → Option (List AV)
  | [] => some []
  | c :: cs => match rnC0 f c with
    | some d => match rnCL0 f cs with
      | some ds => some (d :: ds)
      | none => none
    | none => none

/-- Values with their variables named anew. -/
def rnC (f : Loc → Option Loc) : AV → Option AV
  | .ptr k off => match f k with
    | some l => some (.ptr l off)
    | none => none
  | .msl k off len cap => match f k with
    | some l => some (.msl l off len cap)
    | none => none
  | .mref k => match f k with
    | some l => some (.mref l)
    | none => none
  | .bref k => match f k with
    | some l => some (.bref l)
    | none => none
  | .mapc ks vs => match ks.all portA && vs.all portA with
    | true => some (.mapc ks vs)
    | false => none
  | .fn k cs => match rnCL0 f cs with
    | some ds => some (.fn k ds)
    | none => none
  | c => match port1 c with
    | true => some c
    | false => none

def rnCL (f : Loc → Option Loc) : List AV → Option (List AV)
  | [] => some []
  | c :: cs => match rnC f c with
    | some d => match rnCL f cs with
      | some ds => some (d :: ds)
      | none => none
    | none => none

def rnA (f : Loc → Option Loc) : AV → Option AV
  | .agg cs => match rnCL f cs with
    | some ds => some (.agg ds)
    | none => none
  | .fn k cs => match rnCL f cs with
    | some ds => some (.fn k ds)
    | none => none
  | c => rnC f c

def rnAL (f : Loc → Option Loc) : List AV → Option (List AV)
  | [] => some []
  | c :: cs => match rnA f c with
    | some d => match rnAL f cs with
      | some ds => some (d :: ds)
      | none => none
    | none => none

def rnV (f : Loc → Option Loc) : AV → Option AV
  | .tup cs => match rnAL f cs with
    | some ds => some (.tup ds)
    | none => none
  | v => rnA f v

def rnLL (f : Loc → Option Loc) : List (List AV) → Option (List (List AV))
  | [] => some []
  | c :: cs => match rnCL f c with
    | some d => match rnLL f cs with
      | some ds => some (d :: ds)
      | none => none
    | none => none

structure Ren (f : Loc → Option Loc) (G G' : Gh) : Prop where
  st : ∀ b o, G.st b o → G'.st b o
  bx : ∀ k l x, f k = some l → G.bx k = some x → G'.bx l = some x
  tk : G'.tk = G.tk
  nx : G'.nx = G.nx

section
variable {f : Loc → Option Loc} {G G' : Gh} {w : World}
theorem rnC0_rep (r : Ren f G G') {c d : AV} {v : Value} (h : RepA G w c v) (hc : rnC0 f c = some d) : RepA G' w d v := by
  cases h with
  | int k n => cases hc; exact .int _ _
  | bool b => cases hc; exact .bool _
  | str s => cases hc; exact .str _
  | raw => cases hc; exact .raw _
  | sl z es t A c h1 h2 =>
    cases hc
    refine .sl z es t A c (h1.ext r.st (fun _ _ _ => rfl)) ?_
    cases t with
    | no => trivial
    | nil => exact h2
    | own i => exact ⟨by rw [r.nx]; exact h2.1, fun x hx => h2.2 x (by rw [← r.tk]; exact hx)⟩
  | ept cs b o h => cases hc; exact .ept cs b o (h.ext r.st (fun _ _ _ => rfl))
  | ptr k off b o h h0 =>
    simp only [rnC0] at hc
    split at hc
    · rename_i l hl
      cases hc
      exact .ptr l off b o (r.bx _ _ _ hl h) h0
    · cases hc
  | mref k b h =>
    simp only [rnC0] at hc
    split at hc
    · rename_i l hl
      cases hc
      exact .mref l b (r.bx _ _ _ hl h)
    · cases hc
  | bref k b h =>
    simp only [rnC0] at hc
    split at hc
    · rename_i l hl
      cases hc
      exact .bref l b (r.bx _ _ _ hl h)
    · cases hc
  | msl k off len cap b o h h0 h1 h2 =>
    simp only [rnC0] at hc
    split at hc
    · rename_i l hl
      cases hc
      exact .msl l off len cap b o (r.bx _ _ _ hl h) h0 h1 h2
    · cases hc
  | iface t a x h =>
    simp only [rnC0] at hc
    split at hc
    · rename_i hp
      cases hc
      cases h with
      | int => exact .iface _ _ _ (.int _ _)
      | bool => exact .iface _ _ _ (.bool _)
      | str => exact .iface _ _ _ (.str _)
      | _ => cases hp
    · cases hc
  | agg => cases hc
  | tup => cases hc
  | fn => cases hc

theorem rnCL0_get : ∀ {cs ds : List AV}, rnCL0 f cs = some ds → ds.length = cs.length ∧ ∀ (i : Nat) (d : AV), ds[i]? = some d → ∃ c, cs[i]? = some c ∧ rnC0 f c = some d
  | [], ds, h => by cases h; exact ⟨rfl, by simp⟩
  | c :: cs, ds, h => by
    simp only [rnCL0] at h
    split at h
    · rename_i d hd
      split at h
      · rename_i ds' hds
        cases h
        obtain ⟨h1, h2⟩ := rnCL0_get hds
        refine ⟨by simp [h1], fun i e he => ?_⟩
        cases i with
        | zero => simp at he; subst he; exact ⟨c, rfl, hd⟩
        | succ i => exact h2 i e (by simpa using he)
      · cases h
    · cases h

theorem rnC_rep (r : Ren f G G') {c d : AV} {v : Value} (h : RepA G w c v) (hc : rnC f c = some d) : RepA G' w d v := by
  cases h with
  | int k n => cases hc; exact .int _ _
  | bool b => cases hc; exact .bool _
  | str s => cases hc; exact .str _
  | raw => cases hc; exact .raw _
  | sl z es t A c h1 h2 =>
    cases hc
    refine .sl z es t A c (h1.ext r.st (fun _ _ _ => rfl)) ?_
    cases t with
    | no => trivial
    | nil => exact h2
    | own i => exact ⟨by rw [r.nx]; exact h2.1, fun x hx => h2.2 x (by rw [← r.tk]; exact hx)⟩
  | ept cs b o h => cases hc; exact .ept cs b o (h.ext r.st (fun _ _ _ => rfl))
  | ptr k off b o h h0 =>
    simp only [rnC] at hc
    split at hc
    · rename_i l hl
      cases hc
      exact .ptr l off b o (r.bx _ _ _ hl h) h0
    · cases hc
  | mref k b h =>
    simp only [rnC] at hc
    split at hc
    · rename_i l hl
      cases hc
      exact .mref l b (r.bx _ _ _ hl h)
    · cases hc
  | bref k b h =>
    simp only [rnC] at hc
    split at hc
    · rename_i l hl
      cases hc
      exact .bref l b (r.bx _ _ _ hl h)
    · cases hc
  | msl k off len cap b o h h0 h1 h2 =>
    simp only [rnC] at hc
    split at hc
    · rename_i l hl
      cases hc
      exact .msl l off len cap b o (r.bx _ _ _ hl h) h0 h1 h2
    · cases hc
  | iface t a x h =>
    simp only [rnC] at hc
    split at hc
    · rename_i hp
      cases hc
      cases h with
      | int => exact .iface _ _ _ (.int _ _)
      | bool => exact .iface _ _ _ (.bool _)
      | str => exact .iface _ _ _ (.str _)
      | _ => cases hp
    · cases hc
  | agg => cases hc
  | tup => cases hc
  | fn k cs vs g1 g3 =>
    simp only [rnC] at hc
    split at hc
    · rename_i ds hds
      cases hc
      obtain ⟨h1, h2⟩ := rnCL0_get hds
      refine .fn k ds vs (by rw [g1, h1]) (fun i c v hc hv => ?_)
      obtain ⟨a, ha, hd⟩ := h2 i c hc
      exact rnC0_rep r (g3 i a v ha hv) hd
    · cases hc

theorem rnCL_get : ∀ {cs ds : List AV}, rnCL f cs = some ds → ds.length = cs.length ∧ ∀ (i : Nat) (d : AV), ds[i]? = some d → ∃ c, cs[i]? = some c ∧ rnC f c = some d
  | [], ds, h => by cases h; exact ⟨rfl, by simp⟩
  | c :: cs, ds, h => by
    simp only [rnCL] at h
    split at h
    · rename_i d hd
      split at h
      · rename_i ds' hds
        cases h
        obtain ⟨h1, h2⟩ := rnCL_get hds
        refine ⟨by simp [h1], fun i e he => ?_⟩
        cases i with
        | zero => simp at he; subst he; exact ⟨c, rfl, hd⟩
        | succ i => exact h2 i e (by simpa using he)
      · cases h
    · cases h

theorem rnLL_get : ∀ {cs ds : List (List AV)}, rnLL f cs = some ds → ds.length = cs.length ∧ ∀ (i : Nat) (d : List AV), ds[i]? = some d → ∃ c, cs[i]? = some c ∧ rnCL f c = some d
  | [], ds, h => by cases h; exact ⟨rfl, by simp⟩
  | c :: cs, ds, h => by
    simp only [rnLL] at h
    split at h
    · rename_i d hd
      split at h
      · rename_i ds' hds
        cases h
        obtain ⟨h1, h2⟩ := rnLL_get hds
        refine ⟨by simp [h1], fun i e he => ?_⟩
        cases i with
        | zero => simp at he; subst he; exact ⟨c, rfl, hd⟩
        | succ i => exact h2 i e (by simpa using he)
      · cases h
    · cases h

theorem rnA_rep (r : Ren f G G') {c d : AV} {v : Value} (h : RepA G w c v) (hc : rnA f c = some d) : RepA G' w d v := by
  cases c <;> first | exact rnC_rep r h hc | skip
  · rename_i cs
    simp only [rnA] at hc
    split at hc
    · rename_i ds hds
      cases hc
      obtain ⟨h1, h2⟩ := rnCL_get hds
      cases h with
      | agg _ vs g1 g2 g3 =>
        refine .agg ds vs (by rw [g1, h1]) g2 (fun i c v hc hv => ?_)
        obtain ⟨a, ha, hd⟩ := h2 i c hc
        exact rnC_rep r (g3 i a v ha hv) hd
    · cases hc
  · rename_i k cs
    simp only [rnA] at hc
    split at hc
    · rename_i ds hds
      cases hc
      obtain ⟨h1, h2⟩ := rnCL_get hds
      cases h with
      | fn _ _ vs g1 g3 =>
        refine .fn k ds vs (by rw [g1, h1]) (fun i c v hc hv => ?_)
        obtain ⟨a, ha, hd⟩ := h2 i c hc
        exact rnC_rep r (g3 i a v ha hv) hd
    · cases hc

theorem rnC_port {c : AV} (h : port1 c = true) : rnC f c = some c := by
  cases c <;> first | (cases h; done) | (simp only [rnC, h]) | rfl

theorem rnCL_port : ∀ {cs : List AV}, cs.all port1 = true → rnCL f cs = some cs
  | [], _ => rfl
  | c :: cs, h => by
    simp only [List.all_cons, Bool.and_eq_true] at h
    simp only [rnCL, rnC_port h.1, rnCL_port h.2]

theorem rnA_port {c : AV} (h : portA c = true) : rnA f c = some c := by
  cases c with
  | agg cs => simp only [rnA, rnCL_port (show cs.all port1 = true from h)]
  | fn k cs =>
    have h2 : cs.all port1 = true := List.all_eq_true.2 fun c hc => by
      have := List.all_eq_true.1 (show cs.all isEpt = true from h) c hc
      cases c <;> first | rfl | cases this
    simp only [rnA, rnCL_port h2]
  | _ => (simp only [rnA]; refine rnC_port (f := f) ?_; exact h)

theorem EntsAt.ren (r : Ren f G G') {ks vs : List AV} {es : List MapEntry} (h : EntsAt G w ks vs es) (hk : ks.all portA = true) (hv : vs.all portA = true) : EntsAt G' w ks vs es := by
  refine ⟨h.1, h.2.1, fun i k v e h1 h2 h3 => ?_⟩
  obtain ⟨g1, g2⟩ := h.2.2 i k v e h1 h2 h3
  exact ⟨rnA_rep r g1 (rnA_port (List.all_eq_true.1 hk k (List.mem_of_getElem? h1))), rnA_rep r g2 (rnA_port (List.all_eq_true.1 hv v (List.mem_of_getElem? h2)))⟩

theorem MapAt.ren (r : Ren f G G') {E E' : Env} {b : Nat} {cs ds : List AV} (h : MapAt E G w b cs) (hc : rnCL f cs = some ds) : MapAt E' G' w b ds := by
  rcases h with ⟨ks, vs, es, cl, rfl, h2, h3⟩ | ⟨T, e, s, p, v, rfl, _⟩
  rotate_left
  · simp [rnCL, rnC, port1] at hc
  simp only [rnCL, rnC] at hc
  split at hc
  · rename_i d hd
    split at hd
    · rename_i hp
      cases hd
      cases hc
      simp only [Bool.and_eq_true] at hp
      exact .inl ⟨ks, vs, es, cl, rfl, h2, h3.ren r hp.1 hp.2⟩
    · cases hd
  · cases hc

theorem CellsAt.ren (r : Ren f G G') {b o : Nat} {cs ds : List AV} (h : CellsAt G w b o cs) (hc : rnCL f cs = some ds) : CellsAt G' w b o ds := fun j d hd => by
  obtain ⟨a, ha, had⟩ := (rnCL_get hc).2 j d hd
  obtain ⟨f1, v, f2, f3, f4⟩ := h j a ha
  exact ⟨f1, v, f2, f3, rnC_rep r f4 had⟩

theorem rnAL_get : ∀ {cs ds : List AV}, rnAL f cs = some ds → ds.length = cs.length ∧ ∀ (i : Nat) (d : AV), ds[i]? = some d → ∃ c, cs[i]? = some c ∧ rnA f c = some d
  | [], ds, h => by cases h; exact ⟨rfl, by simp⟩
  | c :: cs, ds, h => by
    simp only [rnAL] at h
    split at h
    · rename_i d hd
      split at h
      · rename_i ds' hds
        cases h
        obtain ⟨h1, h2⟩ := rnAL_get hds
        refine ⟨by simp [h1], fun i e he => ?_⟩
        cases i with
        | zero => simp at he; subst he; exact ⟨c, rfl, hd⟩
        | succ i => exact h2 i e (by simpa using he)
      · cases h
    · cases h

theorem rnAL_rep (r : Ren f G G') {cs ds : List AV} {vs : List Value} (h : RepArgs G w cs vs) (hc : rnAL f cs = some ds) : RepArgs G' w ds vs := by
  obtain ⟨h1, h2⟩ := rnAL_get hc
  refine ⟨by rw [h.1, h1], fun i d v hd hv => ?_⟩
  obtain ⟨c, hc, hr⟩ := h2 i d hd
  exact rnA_rep r (h.2 i c v hc hv) hr

theorem rnV_rep (r : Ren f G G') {c d : AV} {v : Value} (h : RepA G w c v) (hc : rnV f c = some d) : RepA G' w d v := by
  cases c <;> first | exact rnA_rep r h hc | skip
  rename_i cs
  simp only [rnV] at hc
  split at hc
  · rename_i ds hds
    cases hc
    obtain ⟨h1, h2⟩ := rnAL_get hds
    cases h with
    | tup _ vs g1 g3 =>
      refine .tup ds vs (by rw [g1, h1]) (fun i c v hc hv => ?_)
      obtain ⟨a, ha, hd⟩ := h2 i c hc
      exact rnA_rep r (g3 i a v ha hv) hd
  · cases hc
end

def idxL : List Loc → Loc → Option Nat
  | [], _ => none
  | k :: ls, l => if k = l then some 0 else match idxL ls l with
    | some i => some (i + 1)
    | none => none

theorem idxL_get : ∀ {ls : List Loc} {l : Loc} {i : Nat}, idxL ls l = some i → ls[i]? = some l
  | [], l, i, h => by cases h
  | k :: ls, l, i, h => by
    simp only [idxL] at h
    split at h
    · rename_i hk; cases h; simp [hk]
    · split at h
      · rename_i j hj
        cases h
        simpa using idxL_get hj
      · cases h

/-- No variable twice. -/
def IdxOk (ls : List Loc) : Prop := ∀ i l, ls[i]? = some l → idxL ls l = some i

def outF (ls : List Loc) (l : Loc) : Option Loc := match idxL ls l with
  | some i => some (.out i)
  | none => none

def cellsL (m : AH) : List Loc → Option (List (List AV))
  | [] => some []
  | l :: ls => match m.cells l with
    | some c => match cellsL m ls with
      | some cs => some (c :: cs)
      | none => none
    | none => none

theorem cellsL_get {m : AH} : ∀ {ls : List Loc} {cs : List (List AV)}, cellsL m ls = some cs → cs.length = ls.length ∧ ∀ (i : Nat) (l : Loc), ls[i]? = some l → ∃ c, cs[i]? = some c ∧ m.cells l = some c
  | [], cs, h => by cases h; exact ⟨rfl, by simp⟩
  | l :: ls, cs, h => by
    simp only [cellsL] at h
    split at h
    · rename_i c hc
      split at h
      · rename_i cs' hcs
        cases h
        obtain ⟨h1, h2⟩ := cellsL_get hcs
        refine ⟨by simp [h1], fun i k hk => ?_⟩
        cases i with
        | zero => simp at hk; subst hk; exact ⟨c, rfl, hc⟩
        | succ i => exact h2 i k (by simpa using hk)
      · cases h
    · cases h

/-- The ghost that the called function starts with. -/
def handG (ls : List Loc) (G : Gh) : Gh where
  st := G.st
  bx := fun l => match l with
    | .out i => match ls[i]? with
      | some k => G.bx k
      | none => none
    | .own _ _ => none
  tk := G.tk
  nx := G.nx
  who := fun b => match G.who b with
    | some (.inl l) => (match idxL ls l with
      | some i => some (.inl (.out i))
      | none => none)
    | x => x

def handE (ls : List Loc) (E : Env) (G : Gh) (w : World) : Env where
  w0 := w
  may := fun b => (E.may b ∨ E.w0.heap.size ≤ b) ∧ ((∃ l, l ∈ ls ∧ G.who b = some (.inl l)) ∨ ∃ j, G.who b = some (.inr j))
  g0 := handG ls G
  rd := none
  ds := []
  lk := []

theorem handRen {ls : List Loc} {G : Gh} : Ren (outF ls) G (handG ls G) := by
  refine ⟨fun _ _ h => h, fun k l x hk hx => ?_, rfl, rfl⟩
  unfold outF at hk
  split at hk
  · rename_i i hi
    cases hk
    simp only [handG, idxL_get hi]
    exact hx
  · cases hk

theorem Inv.hand {E : Env} {G : Gh} {m : AH} {w : World} (h : Inv E G m w) {ls : List Loc} {css ds : List (List AV)} (hok : IdxOk ls) (hc : cellsL m ls = some css) (hr : rnLL (outF ls) css = some ds) :
    Inv (handE ls E G w) (handG ls G) ⟨[], ds, m.nx, m.lv⟩ w := by
  obtain ⟨c1, c2⟩ := cellsL_get hc
  obtain ⟨r1, r2⟩ := rnLL_get hr
  refine ⟨⟨rfl, rfl, rfl, Nat.le_refl _, fun _ _ _ => rfl⟩, fun l cs hl => ?_, fun t g _ => rfl, fun i hi => ?_, h.lt, h.nx, fun b hb => ?_, Ext.refl _ _, fun b o hs _ => .inl hs⟩
  · cases l with
    | own t g => simp [AH.cells, hget] at hl
    | out i =>
      simp only [AH.cells] at hl
      obtain ⟨c, hci, hcr⟩ := r2 i cs hl
      have hil : i < ls.length := by rw [← c1]; exact (List.getElem?_eq_some_iff.1 hci).1
      have hli := List.getElem?_eq_getElem hil
      obtain ⟨c', hc', hcm⟩ := c2 i _ hli
      rw [hci] at hc'
      cases hc'
      obtain ⟨b, o, h1, h2, h3, h4, h5⟩ := h.box _ _ hcm
      exact ⟨b, o, by simp only [handG, hli]; exact h1, by simp only [handG, h2, hok i _ hli], .inl ⟨h3, .inl ⟨_, List.getElem_mem hil, h2⟩⟩, h4, fun h0 => (h5.1 h0).ren handRen hcr, fun h0 => (h5.2 h0).ren handRen hcr⟩
  · rcases h.tok i hi with ht | ⟨b, o, n, c, z, cells, ty, t1, t2, t3, t4⟩
    · exact .inl ht
    · exact .inr ⟨b, o, n, c, z, cells, ty, t1, by simp only [handG, t2], .inl ⟨t3, .inr ⟨i, t2⟩⟩, t4⟩
  · obtain ⟨h1, h2⟩ := h.fresh b hb
    exact ⟨by simp only [handG, h1], h2⟩


theorem setCells_cells {m : AH} {l : Loc} {c0 : List AV} (cs : List AV) (h : m.cells l = some c0) (l2 : Loc) : (m.setCells l cs).cells l2 = if l = l2 then some cs else m.cells l2 := by
  cases l with
  | own t g =>
    have hg : hget m.h t = some (g, c0) := by
      simp only [AH.cells] at h
      cases hh : hget m.h t with
      | none => rw [hh] at h; cases h
      | some x =>
        obtain ⟨g3, cs3⟩ := x
        rw [hh] at h
        simp only at h
        split at h
        · rename_i e; cases h; rw [e]
        · cases h
    cases l2 with
    | out k => simp [AH.cells, AH.setCells]
    | own t2 g2 =>
      simp only [AH.setCells, AH.cells]
      by_cases ht : t = t2
      · subst ht
        rw [hget_set_self, hg]
        by_cases hgg : g = g2
        · subst hgg; simp
        · have : ¬ g2 = g := fun e => hgg e.symm
          simp [this, hgg]
      · rw [hget_set_ne _ _ _ ht]
        have : ¬ (Loc.own t g = Loc.own t2 g2) := fun e => ht (by cases e; rfl)
        rw [if_neg this]
  | out k =>
    cases l2 with
    | own t2 g2 => simp [AH.cells, AH.setCells]
    | out k2 =>
      simp only [AH.setCells, AH.cells] at h ⊢
      have hk : k < m.o.length := (List.getElem?_eq_some_iff.1 h).1
      by_cases hkk : k = k2
      · subst hkk; rw [List.getElem?_set_self hk]; simp
      · rw [List.getElem?_set_ne hkk]; simp [hkk]

theorem setCells_gen {m : AH} {l : Loc} {c0 : List AV} (cs : List AV) (h : m.cells l = some c0) (t : Nat) : (hget (m.setCells l cs).h t).map (·.1) = (hget m.h t).map (·.1) := by
  cases l with
  | own t2 g =>
    simp only [AH.cells] at h
    simp only [AH.setCells]
    by_cases ht : t2 = t
    · subst ht
      rw [hget_set_self]
      cases hh : hget m.h t2 with
      | none => rw [hh] at h; cases h
      | some x =>
        obtain ⟨g3, cs3⟩ := x
        rw [hh] at h
        simp only at h
        split at h
        · rename_i e; simp [e]
        · cases h
    · rw [hget_set_ne _ _ _ ht]
  | out k => rfl

def AH.setAll : AH → List Loc → List (List AV) → AH
  | m, l :: ls, c :: cs => (m.setCells l c).setAll ls cs
  | m, _, _ => m

theorem IdxOk.tail {k : Loc} {ls : List Loc} (h : IdxOk (k :: ls)) : IdxOk ls ∧ idxL ls k = none := by
  have key : ∀ i l, ls[i]? = some l → k ≠ l ∧ idxL ls l = some i := by
    intro i l hl
    have := h (i + 1) l (by simpa using hl)
    simp only [idxL] at this
    split at this
    · cases this
    · rename_i hk
      split at this
      · rename_i j hj
        cases this
        exact ⟨hk, hj⟩
      · cases this
  refine ⟨fun i l hl => (key i l hl).2, ?_⟩
  cases hi : idxL ls k with
  | none => rfl
  | some i => exact absurd rfl (key i k (idxL_get hi)).1

theorem setAll_cells : ∀ (ls : List Loc) (cs : List (List AV)) (m : AH), IdxOk ls → cs.length = ls.length → (∀ l ∈ ls, ∃ c, m.cells l = some c) → ∀ l, (m.setAll ls cs).cells l = match idxL ls l with
    | some i => cs[i]?
    | none => m.cells l
  | [], cs, m, _, _, _, l => by simp [AH.setAll, idxL]
  | k :: ls, [], m, _, hl, _, l => by simp at hl
  | k :: ls, c :: cs, m, hok, hlen, hlive, l => by
    obtain ⟨h1, h2⟩ := hok.tail
    obtain ⟨c0, hc0⟩ := hlive k (List.mem_cons_self ..)
    simp only [AH.setAll]
    rw [setAll_cells ls cs (m.setCells k c) h1 (by simpa using hlen) (fun l hl => by
      rw [setCells_cells c hc0]
      split
      · exact ⟨_, rfl⟩
      · exact hlive l (List.mem_cons_of_mem _ hl)) l]
    simp only [idxL]
    rw [setCells_cells c hc0]
    by_cases hk : k = l
    · subst hk
      rw [h2]
      simp
    · simp only [hk, if_false]
      cases idxL ls l with
      | none => rfl
      | some i => simp

theorem setAll_gen : ∀ (ls : List Loc) (cs : List (List AV)) (m : AH), (∀ l ∈ ls, ∃ c, m.cells l = some c) → ∀ t, (hget (m.setAll ls cs).h t).map (·.1) = (hget m.h t).map (·.1)
  | [], cs, m, _, t => by simp [AH.setAll]
  | k :: ls, [], m, _, t => by simp [AH.setAll]
  | k :: ls, c :: cs, m, hlive, t => by
    obtain ⟨c0, hc0⟩ := hlive k (List.mem_cons_self ..)
    simp only [AH.setAll]
    rw [setAll_gen ls cs (m.setCells k c) (fun l hl => by
      rw [setCells_cells c hc0]
      split
      · exact ⟨_, rfl⟩
      · exact hlive l (List.mem_cons_of_mem _ hl)) t]
    exact setCells_gen c hc0 t

/-- Where the caller finds a variable of the called function. -/
def backF (ls : List Loc) (ad : Option Loc) (l0 : Loc) : Loc → Option Loc
  | .out i => ls[i]?
  | .own t g => if ad = some (.own t g) then some l0 else none

def backM (m m' : AH) (ls : List Loc) (cs : List (List AV)) (ad : Option Loc) (T : Nat) (c0 : List AV) : AH := match ad with
  | none => ⟨(m.setAll ls cs).h, (m.setAll ls cs).o, m'.nx, m'.lv⟩
  | some _ => ⟨hset (m.setAll ls cs).h T (gnext m T) c0, (m.setAll ls cs).o, m'.nx, m'.lv⟩

theorem gnext_none {m : AH} {T : Nat} : m.cells (.own T (gnext m T)) = none := by
  have h : ∀ g, gnext m T = g → m.cells (.own T g) = none := by
    intro g hg
    simp only [AH.cells]
    cases hh : hget m.h T with
    | none => rfl
    | some x =>
      obtain ⟨g', cs⟩ := x
      simp only [gnext, hh] at hg
      have : ¬ g = g' := by omega
      simp [this]
  exact h _ rfl

theorem Inv.back {E : Env} {G G' : Gh} {m m' : AH} {w w' : World} (h : Inv E G m w) {ls : List Loc} {css cs2 : List (List AV)} {T : Nat} {ad : Option Loc} {c0 : List AV} (hok : IdxOk ls) (hc : cellsL m ls = some css)
    (hi : Inv (handE ls E G w) G' m' w') (hb : rnLL (backF ls ad (.own T (gnext m T))) m'.o = some cs2) (hlen : cs2.length = ls.length)
    (ha : ∀ k, ad = some k → (∃ t g, k = .own t g) ∧ ∃ cs', m'.cells k = some cs' ∧ rnCL (backF ls ad (.own T (gnext m T))) cs' = some c0) :
    ∃ G2, Ext G w G2 w' ∧ Inv E G2 (backM m m' ls cs2 ad T c0) w' ∧ Ren (backF ls ad (.own T (gnext m T))) G' G2 := by
  generalize hl0 : Loc.own T (gnext m T) = l0 at *
  have hfree : m.cells l0 = none := by rw [← hl0]; exact gnext_none
  have hbx0 : G.bx l0 = none := by
    rw [← hl0]
    apply h.gen
    simp only [gnext]
    cases hg : hget m.h T with
    | none => exact .inl rfl
    | some x => obtain ⟨g', cs'⟩ := x; exact .inr ⟨g', cs', rfl, by simp⟩
  obtain ⟨c1, c2⟩ := cellsL_get hc
  have hlive : ∀ l ∈ ls, ∃ c, m.cells l = some c := fun l hl => by
    obtain ⟨i, hi⟩ := List.getElem?_of_mem hl
    obtain ⟨c, _, hc⟩ := c2 i l hi
    exact ⟨c, hc⟩
  let f := backF ls ad l0
  let kept : Nat → Prop := fun b => ∃ l, l ∉ ls ∧ G.who b = some (.inl l)
  let whoB : Option (Loc ⊕ Nat) → Option (Loc ⊕ Nat) := fun x => match x with
    | some (.inl k) => (f k).map .inl
    | some (.inr j) => some (.inr j)
    | none => none
  let G2 : Gh := { st := G'.st, bx := fun l => if l = l0 ∧ ad ≠ none then ad.bind G'.bx else G.bx l, tk := G'.tk, nx := G'.nx, who := fun b => if kept b then G.who b else whoB (G'.who b) }
  have hsz : w.heap.size ≤ w'.heap.size := hi.kept.size
  have hold : ∀ l c, m.cells l = some c → G2.bx l = G.bx l := fun l c hl => by
    have : ¬ (l = l0 ∧ ad ≠ none) := fun e => by rw [e.1, hfree] at hl; cases hl
    simp only [G2, this, if_false]
  have houtbx : ∀ i l x, ls[i]? = some l → G'.bx (.out i) = some x → G.bx l = some x := fun i l x hl hx => by
    obtain ⟨c, hcm⟩ := hlive l (List.mem_of_getElem? hl)
    obtain ⟨b, o, h1, _⟩ := h.box l c hcm
    have := hi.ext.bx (.out i) (b, o) (by simp only [handE, handG, hl]; exact h1)
    rw [hx] at this
    cases this
    exact h1
  have hmay : ∀ b, (handE ls E G w).may b ∨ w.heap.size ≤ b → ¬ kept b := fun b hb hk => by
    obtain ⟨l, hl, hw⟩ := hk
    rcases hb with ⟨_, ⟨l', hl', hw'⟩ | ⟨j, hw'⟩⟩ | hb
    · rw [hw] at hw'; cases hw'; exact hl hl'
    · rw [hw] at hw'; cases hw'
    · have := who_lt h hw; omega
  have hren : Ren f G' G2 := by
    refine ⟨fun _ _ x => x, fun k l x hk hx => ?_, rfl, rfl⟩
    cases k with
    | out i =>
      obtain ⟨c, hcm⟩ := hlive l (List.mem_of_getElem? hk)
      rw [hold l c hcm]
      exact houtbx i l x hk hx
    | own t g =>
      simp only [f, backF] at hk
      split at hk
      · rename_i e
        cases hk
        have : G2.bx l0 = ad.bind G'.bx := by simp [G2, e]
        rw [this, e]
        exact hx
      · cases hk
  have hext : Ext G w G2 w' := by
    refine ⟨hi.ext.st, hi.ext.cell, fun l x hx => ?_, hi.ext.nx, hi.ext.tk⟩
    have : ¬ (l = l0 ∧ ad ≠ none) := fun e => by rw [e.1, hbx0] at hx; cases hx
    simp only [G2, this, if_false]
    exact hx
  have hheap : ∀ b, b < w.heap.size → ¬ (handE ls E G w).may b → w'.heap[b]? = w.heap[b]? := fun b h1 h2 => hi.kept.block b h1 h2
  have hst1 : ∀ b o, G'.st b o → b < w.heap.size → G.st b o ∨ (handE ls E G w).may b := fun b o hs hb => hi.st1 b o hs hb
  have hm2 := setAll_cells ls cs2 m hok hlen hlive
  have hgen2 := setAll_gen ls cs2 m hlive
  -- every variable that the caller has now
  have hcells : ∀ l cs, (backM m m' ls cs2 ad T c0).cells l = some cs → (∃ k cs', f k = some l ∧ m'.cells k = some cs' ∧ rnCL f cs' = some cs) ∨ (m.cells l = some cs ∧ l ∉ ls) := by
    have base : ∀ l cs, (m.setAll ls cs2).cells l = some cs → (∃ k cs', f k = some l ∧ m'.cells k = some cs' ∧ rnCL f cs' = some cs) ∨ (m.cells l = some cs ∧ l ∉ ls) := by
      intro l cs hcs
      rw [hm2 l] at hcs
      cases hidx : idxL ls l with
      | some i =>
        rw [hidx] at hcs
        left
        obtain ⟨a, ha1, ha2⟩ := (rnLL_get hb).2 i cs hcs
        exact ⟨.out i, a, idxL_get hidx, ha1, ha2⟩
      | none =>
        rw [hidx] at hcs
        right
        refine ⟨hcs, fun hl => ?_⟩
        obtain ⟨i, hi⟩ := List.getElem?_of_mem hl
        rw [hok i l hi] at hidx
        cases hidx
    intro l cs hcs
    cases had : ad with
    | none =>
      subst had
      exact base l cs (by cases l <;> exact hcs)
    | some k =>
      obtain ⟨⟨t, g, rfl⟩, cs', hk1, hk2⟩ := ha k had
      subst had
      simp only [backM] at hcs
      cases l with
      | out i => exact base (.out i) cs hcs
      | own t2 g2 =>
        simp only [AH.cells] at hcs
        by_cases ht : T = t2
        · subst ht
          rw [hget_set_self] at hcs
          simp only at hcs
          split at hcs
          · rename_i e
            cases hcs
            left
            refine ⟨.own t g, cs', ?_, hk1, hk2⟩
            simp only [f, backF, if_true]
            rw [← hl0, e]
          · cases hcs
        · rw [hget_set_ne _ _ _ ht] at hcs
          exact base (.own t2 g2) cs hcs
  refine ⟨G2, hext, ⟨?_, fun l cs hcs => ?_, fun t g hg => ?_, fun i hl => ?_, fun i hl => ?_, ?_, fun b hb => ?_, h.ext.trans hext, fun b o hs hb => ?_⟩, hren⟩
  · refine h.kept.heap hi.kept.os hi.kept.tape hi.kept.output hi.kept.size (fun b hb hm => hheap b (Nat.lt_of_lt_of_le hb h.kept.size) (fun hm' => ?_))
    rcases hm'.1 with h1 | h1
    · exact hm h1
    · omega
  · rcases hcells l cs hcs with ⟨k, cs', hk, hk1, hk2⟩ | ⟨h1, h2⟩
    · obtain ⟨b, o, g1, g2, g3, g4, g5⟩ := hi.box k cs' hk1
      have hnk := hmay b g3
      refine ⟨b, o, hren.bx k l _ hk g1, ?_, ?_, g4, fun h0 => (g5.1 h0).ren hren hk2, fun h0 => (g5.2 h0).ren hren hk2⟩
      · simp only [G2, hnk, if_false, g2, whoB, hk, Option.map_some]
      · rcases g3 with g3 | g3
        · exact g3.1
        · exact .inr (Nat.le_trans h.kept.size g3)
    · refine (h.box l cs h1).same hext (fun b hwb => ?_)
      have hk : kept b := ⟨l, h2, hwb⟩
      have hnm : ¬ (handE ls E G w).may b := fun hm => hmay b (.inl hm) hk
      refine ⟨by simp only [G2, hk, if_true]; exact hwb, fun j hj => (hst1 b j hj (who_lt h hwb)).resolve_right hnm, hheap b (who_lt h hwb) hnm⟩
  · have hne : ∀ t g, (hget m.h t = none ∨ ∃ g' cs, hget m.h t = some (g', cs) ∧ g' < g) → ¬ (Loc.own t g = l0 ∧ ad ≠ none) → G2.bx (.own t g) = none := fun t g hh hn => by
      simp only [G2, hn, if_false]
      exact h.gen t g hh
    have conv : (hget (m.setAll ls cs2).h t = none ∨ ∃ g' cs, hget (m.setAll ls cs2).h t = some (g', cs) ∧ g' < g) → (hget m.h t = none ∨ ∃ g' cs, hget m.h t = some (g', cs) ∧ g' < g) := by
      have e := hgen2 t
      rintro (hx | ⟨g', cs, hx, hlt⟩)
      · rw [hx] at e
        cases hm : hget m.h t with
        | none => exact .inl rfl
        | some y => rw [hm] at e; cases e
      · rw [hx] at e
        cases hm : hget m.h t with
        | none => rw [hm] at e; cases e
        | some y =>
          obtain ⟨g1, cs1⟩ := y
          rw [hm] at e
          simp only [Option.map_some, Option.some.injEq] at e
          subst e
          exact .inr ⟨_, cs1, rfl, hlt⟩
    cases had : ad with
    | none =>
      subst had
      exact hne t g (conv hg) (fun e => e.2 rfl)
    | some k =>
      subst had
      simp only [backM] at hg
      by_cases ht : T = t
      · subst ht
        rw [hget_set_self] at hg
        rcases hg with hg | ⟨g', cs, hg, hlt⟩
        · cases hg
        · cases hg
          refine hne T g ?_ (fun e => ?_)
          · simp only [gnext] at hlt
            cases hm : hget m.h T with
            | none => exact .inl rfl
            | some y =>
              obtain ⟨g1, cs1⟩ := y
              rw [hm] at hlt
              simp only at hlt
              exact .inr ⟨g1, cs1, rfl, by omega⟩
          · have := hl0.trans e.1.symm
            cases this
            exact Nat.lt_irrefl _ hlt
      · rw [hget_set_ne _ _ _ ht] at hg
        refine hne t g (conv hg) (fun e => ?_)
        have := hl0.trans e.1.symm
        cases this
        exact ht rfl
  · have hl' : m'.lv i := by cases ad <;> exact hl
    rcases hi.tok i hl' with ht | ⟨b, o, n, c, z, cells, ty, t1, t2, t3, t4⟩
    · exact .inl ht
    · have hnk := hmay b t3
      refine .inr ⟨b, o, n, c, z, cells, ty, t1, by simp only [G2, hnk, if_false, t2, whoB], ?_, t4⟩
      rcases t3 with t3 | t3
      · exact t3.1
      · exact .inr (Nat.le_trans h.kept.size t3)
  · have hl' : m'.lv i := by cases ad <;> exact hl
    have := hi.lt i hl'
    cases ad <;> exact this
  · have := hi.nx
    cases ad <;> exact this
  · obtain ⟨h1, h2⟩ := hi.fresh b hb
    refine ⟨?_, h2⟩
    have hnk : ¬ kept b := fun ⟨l, _, hw⟩ => by have := who_lt h hw; omega
    simp only [G2, hnk, if_false, h1, whoB]
  · rcases hst1 b o hs (Nat.lt_of_lt_of_le hb h.kept.size) with h1 | h1
    · exact h.st1 b o h1 hb
    · rcases h1.1 with h2 | h2
      · exact .inr h2
      · omega

theorem TabsOk.hand {P : Program} {E : Env} {G : Gh} {m : AH} {w : World} {ls : List Loc} (hT : TabsOk P E) (h : Inv E G m w) : TabsOk P (handE ls E G w) := fun w' k => by
  refine hT w' (h.kept.heap k.os k.tape k.output k.size (fun b hb hm => k.block b (Nat.lt_of_lt_of_le hb h.kept.size) (fun hm' => ?_)))
  rcases hm'.1 with h1 | h1
  · exact hm h1
  · omega

/-- What a call comes to that may write what it was handed. -/
def QCall (P : Program) (f : Nat) (m0 : AH) (as : List AV) (R : AH → AV → Prop) : Prop :=
  ∀ (E : Env) (G : Gh) (w : World) (vs : List Value), TabsOk P E → E.w0 = w → E.g0 = G → Inv E G m0 w → RepArgs G w as vs →
    Calls P f vs.toArray w fun e w' => ∃ v r G' m', e = .returned v ∧ Inv E G' m' w' ∧ RepA G' w' r v ∧ R m' r

attribute [irreducible] QCall

/-- What is to be shown of a call that may write what it is handed. -/
def effK (P : Program) (k : Nat) (args : List AV) (σ : AS) (dst : Option Nat) (K : AS → Prop) : Prop :=
  ∃ ls as css ds R, rnAL (outF ls) args = some as ∧ cellsL σ.m ls = some css ∧ rnLL (outF ls) css = some ds ∧ IdxOk ls ∧ QCall P k ⟨[], ds, σ.m.nx, σ.m.lv⟩ as R ∧
    ∀ m' r, R m' r → ∃ ad T c0 cs2 r2, rnLL (backF ls ad (.own T (gnext σ.m T))) m'.o = some cs2 ∧ cs2.length = ls.length ∧
      (∀ k, ad = some k → (∃ t g, k = .own t g) ∧ ∃ cs', m'.cells k = some cs' ∧ rnCL (backF ls ad (.own T (gnext σ.m T))) cs' = some c0) ∧
      rnV (backF ls ad (.own T (gnext σ.m T))) r = some r2 ∧ K (AS.put ⟨σ.s, backM σ.m m' ls cs2 ad T c0⟩ dst r2)

theorem effK_ok {P : Program} {E : Env} {k : Nat} {args : List AV} {σ : AS} {dst : Option Nat} {K : AS → Prop} {G : Gh} {w : World} {vs : List Value} (hT : TabsOk P E) (h : effK P k args σ dst K) (hi : Inv E G σ.m w) (hr : RepArgs G w args vs) :
    Calls P k vs.toArray w fun e w' => ∃ v m2 r2 G2, e = .returned v ∧ Ext G w G2 w' ∧ Inv E G2 m2 w' ∧ RepA G2 w' r2 v ∧ K (AS.put ⟨σ.s, m2⟩ dst r2) := by
  obtain ⟨ls, as, css, ds, R, h1, h2, h3, h4, h5, h6⟩ := h
  unfold QCall at h5
  refine (h5 (handE ls E G w) (handG ls G) w vs (hT.hand hi) rfl rfl (hi.hand h4 h2 h3) (rnAL_rep handRen hr h1)).mono ?_
  rintro e w' ⟨v, r, G', m', rfl, g1, g2, g3⟩
  obtain ⟨ad, T, c0, cs2, r2, k1, k2, k3, k4, k5⟩ := h6 m' r g3
  obtain ⟨G2, e1, e2, e3⟩ := hi.back h4 h2 g1 k1 k2 k3
  exact ⟨v, _, r2, G2, rfl, e1, e2, rnV_rep e3 g2 k4, k5⟩

attribute [irreducible] effK

end Go.AB

/- Maps: keys, what lies at them; making, looking up, updating. Calls that share the caller's memory. -/
namespace Go.AB
open Classical

def ckV : CK → AV → Bool
  | .int k, .int k' _ => decide (k' = k)
  | .bool, .bool _ => true
  | .str, .str _ => true
  | _, _ => false
def cksV : List CK → List AV → Bool
  | [], [] => true
  | c :: cs, x :: xs => ckV c x && cksV cs xs
  | _, _ => false
/-- A value that is a key of this type. -/
def keyA (P : Program) (t : Nat) (k : AV) : Bool := match k with
  | .agg xs => match stA P t with
    | some ks => cksV ks xs
    | none => false
  | k => match ckOf P t with
    | some c => ckV c k
    | none => false

def kval1 : AV → Value
  | .int k n => .int k n
  | .bool b => .bool b
  | .str s => .string ⟨s.toArray⟩
  | _ => undef

theorem ckV_rep {G : Gh} {w : World} {c : CK} {k : AV} {v : Value} (h : ckV c k = true) (hr : RepA G w k v) : v = kval1 k := by
  cases c <;> cases k <;> simp only [ckV, Bool.false_eq_true] at h <;> cases hr <;> rfl

theorem cksV_rep {G : Gh} {w : World} : ∀ {ks : List CK} {xs : List AV} {vs : List Value}, cksV ks xs = true → vs.length = xs.length → (∀ (i : Nat) (c : AV) (v : Value), xs[i]? = some c → vs[i]? = some v → RepA G w c v) → vs = xs.map kval1
  | [], [], vs, _, hl, _ => by cases vs <;> simp_all
  | [], _ :: _, vs, h, _, _ => by cases h
  | _ :: _, [], vs, h, _, _ => by cases h
  | c :: cs, x :: xs, [], _, hl, _ => by simp at hl
  | c :: cs, x :: xs, v :: vs, h, hl, hr => by
    simp only [cksV, Bool.and_eq_true] at h
    rw [ckV_rep h.1 (hr 0 x v rfl rfl), cksV_rep h.2 (by simpa using hl) (fun i c v hc hv => hr (i + 1) c v hc hv)]
    rfl

def kval : AV → Value
  | .agg xs => .agg (xs.map kval1).toArray
  | k => kval1 k

theorem keyA_rep {P : Program} {G : Gh} {w : World} {t : Nat} {k : AV} {v : Value} (h : keyA P t k = true) (hr : RepA G w k v) : v = kval k := by
  cases k with
  | agg xs =>
    simp only [keyA] at h
    split at h
    · cases hr with
      | agg _ vs h1 _ h2 => rw [cksV_rep h h1 h2]; rfl
    · cases h
  | _ =>
    simp only [keyA] at h
    split at h
    · exact ckV_rep h hr
    · cases h

theorem str_inj {a b : List UInt8} (h : (Value.string ⟨a.toArray⟩) = .string ⟨b.toArray⟩) : a = b := by
  injection h with h
  injection h with h
  simpa using congrArg Array.toList h

theorem ckV_inj {c : CK} {k k' : AV} (h : ckV c k = true) (h' : ckV c k' = true) (e : kval1 k = kval1 k') : k = k' := by
  cases c <;> cases k <;> simp only [ckV, Bool.false_eq_true] at h <;> cases k' <;> simp only [ckV, Bool.false_eq_true] at h' <;> simp only [kval1] at e
  · cases e; rfl
  · cases e; rfl
  · rw [str_inj e]

theorem cksV_inj : ∀ {ks : List CK} {xs ys : List AV}, cksV ks xs = true → cksV ks ys = true → xs.map kval1 = ys.map kval1 → xs = ys
  | [], [], [], _, _, _ => rfl
  | [], _ :: _, _, h, _, _ => by cases h
  | [], [], _ :: _, _, h, _ => by cases h
  | _ :: _, [], _, h, _, _ => by cases h
  | _ :: _, _ :: _, [], _, h, _ => by cases h
  | c :: cs, x :: xs, y :: ys, h, h', e => by
    simp only [cksV, Bool.and_eq_true] at h h'
    simp only [List.map_cons, List.cons.injEq] at e
    rw [ckV_inj h.1 h'.1 e.1, cksV_inj h.2 h'.2 e.2]

theorem keyA_inj {P : Program} {t : Nat} {k k' : AV} (h : keyA P t k = true) (h' : keyA P t k' = true) (hs : (∃ xs ys, k = .agg xs ∧ k' = .agg ys) ∨ (∃ c, ckV c k = true ∧ ckV c k' = true)) (e : kval k = kval k') : k = k' := by
  rcases hs with ⟨xs, ys, rfl, rfl⟩ | ⟨c, h1, h2⟩
  · simp only [keyA] at h h'
    split at h
    · rename_i ks hks
      rw [hks] at h'
      simp only [kval] at e
      injection e with e
      rw [cksV_inj h h' (by simpa using congrArg Array.toList e)]
    · cases h
  · refine ckV_inj h1 h2 ?_
    have : ∀ {x : AV}, ckV c x = true → kval x = kval1 x := fun {x} hx => by cases c <;> cases x <;> first | rfl | cases hx
    rw [← this h1, ← this h2, e]

/-- What lies at a key. -/
noncomputable def mget : List AV → List AV → AV → Option AV
  | k' :: ks, v :: vs, k => if k' = k then some v else mget ks vs k
  | _, _, _ => none
noncomputable def mset : List AV → List AV → AV → AV → List AV × List AV
  | k' :: ks, v' :: vs, k, v => if k' = k then (k' :: ks, v :: vs) else (k' :: (mset ks vs k v).1, v' :: (mset ks vs k v).2)
  | _, _, k, v => ([k], [v])
def mapP (p : List AV × List AV) : AV := .mapc p.1 p.2

/-- What a search for a key comes to. -/
def FindAt (G : Gh) (w : World) (ks vs : List AV) (k : AV) (n : Nat) (r : Option (Nat × Value)) : Prop :=
  (r = none ∧ mget ks vs k = none ∧ ∀ v', mset ks vs k v' = (ks ++ [k], vs ++ [v'])) ∨
  ∃ i x v, r = some (n + i, x) ∧ ks[i]? = some k ∧ vs[i]? = some v ∧ mget ks vs k = some v ∧ RepA G w v x ∧ ∀ v', mset ks vs k v' = (ks, vs.set i v')

theorem FindAt.hit {G : Gh} {w : World} {ks vs : List AV} {k v : AV} {n : Nat} {x : Value} (h : RepA G w v x) : FindAt G w (k :: ks) (v :: vs) k n (some (n, x)) :=
  .inr ⟨0, x, v, rfl, rfl, rfl, by simp [mget], h, fun v' => by simp [mset]⟩
theorem FindAt.miss {G : Gh} {w : World} {ks vs : List AV} {k k' v : AV} {n : Nat} {r : Option (Nat × Value)} (hne : k' ≠ k) (h : FindAt G w ks vs k (n + 1) r) : FindAt G w (k' :: ks) (v :: vs) k n r := by
  rcases h with ⟨h1, h2, h3⟩ | ⟨i, x, v0, h1, h2, h3, h4, h5, h6⟩
  · exact .inl ⟨h1, by simp [mget, hne, h2], fun v' => by simp [mset, hne, h3]⟩
  · exact .inr ⟨i + 1, x, v0, by rw [h1]; congr 2; omega, by simpa using h2, by simpa using h3, by simp [mget, hne, h4], h5, fun v' => by simp [mset, hne, h6]⟩

theorem EntsAt.cons {G : Gh} {w : World} {ks vs : List AV} {e : MapEntry} {es : List MapEntry} (h : EntsAt G w ks vs (e :: es)) :
    ∃ k ks' v vs', ks = k :: ks' ∧ vs = v :: vs' ∧ RepA G w k e.key ∧ RepA G w v e.val ∧ EntsAt G w ks' vs' es := by
  obtain ⟨h1, h2, h3⟩ := h
  cases ks with
  | nil => simp at h1
  | cons k ks =>
    cases vs with
    | nil => simp at h2
    | cons v vs =>
      obtain ⟨g1, g2⟩ := h3 0 k v e rfl rfl rfl
      exact ⟨k, ks, v, vs, rfl, rfl, g1, g2, by simpa using h1, by simpa using h2, fun i k' v' e' a b c => h3 (i + 1) k' v' e' (by simpa using a) (by simpa using b) (by simpa using c)⟩

section
variable {P : Program} {G : Gh} {w : World}

theorem ckV_same {c : CK} {d : TypeDesc} {k k' : AV} {t : Nat} (hd : P.underlying t = some d) (hc : ckOf P t = some c) (h : ckV c k = true) (h' : ckV c k' = true) : Instr.sameNow d (kval1 k) (kval1 k') = some (decide (k = k')) := by
  unfold ckOf at hc
  rw [hd] at hc
  cases c <;> cases k <;> simp only [ckV, Bool.false_eq_true] at h <;> cases k' <;> simp only [ckV, Bool.false_eq_true] at h'
  · simp at h h'
    subst h h'
    cases d <;> simp at hc
    simp only [kval1, Instr.sameNow, if_true, AV.int.injEq, true_and]
    rfl
  · cases d <;> simp at hc
    rename_i a b
    simp only [kval1, Instr.sameNow, AV.bool.injEq]
    cases a <;> cases b <;> rfl
  · cases d <;> simp at hc
    rename_i a b
    simp only [kval1, Instr.sameNow, AV.str.injEq]
    congr 1
    by_cases e : a = b
    · subst e
      simp only [decide_true]
      exact (MapKept.bytes_beq _ _).2 rfl
    · simp only [e, decide_false]
      cases hb : ((⟨a.toArray⟩ : ByteArray) == ⟨b.toArray⟩) with
      | false => rfl
      | true =>
        have := (MapKept.bytes_beq _ _).1 hb
        exact absurd (str_inj (by rw [this])) e

theorem findNow_ok {d : TypeDesc} {t : Nat} {c : CK} {k : AV} (hd : P.underlying t = some d) (hc : ckOf P t = some c) (hk : ckV c k = true) : ∀ (es : List MapEntry) (ks vs : List AV) (n : Nat), EntsAt G w ks vs es → (∀ k' ∈ ks, ckV c k' = true) →
    ∃ r, Instr.findNow d (kval1 k) es n = some r ∧ FindAt G w ks vs k n r
  | [], ks, vs, n, h, _ => by
    obtain ⟨h1, h2, _⟩ := h
    have : ks = [] := List.length_eq_zero_iff.1 h1.symm
    subst this
    have : vs = [] := List.length_eq_zero_iff.1 h2
    subst this
    exact ⟨none, rfl, .inl ⟨rfl, rfl, fun _ => rfl⟩⟩
  | e :: es, ks, vs, n, h, ha => by
    obtain ⟨k', ks', v, vs', rfl, rfl, h1, h2, h3⟩ := h.cons
    have hk' := ha k' (List.mem_cons_self ..)
    rw [Instr.findNow, ckV_rep hk' h1, ckV_same hd hc hk hk']
    by_cases hkk : k = k'
    · subst hkk
      simp only [decide_true]
      exact ⟨_, rfl, .hit h2⟩
    · simp only [hkk, decide_false]
      obtain ⟨r, hr, hf⟩ := findNow_ok hd hc hk es ks' vs' (n + 1) h3 (fun q hq => ha q (List.mem_cons_of_mem _ hq))
      exact ⟨r, hr, .miss (fun e => hkk e.symm) hf⟩

theorem eqA_ck : ∀ {cs : List CK} {xs ys : List AV} {K : Bool → Prop}, cksV cs xs = true → cksV cs ys = true → K (decide (xs = ys)) → eqA cs xs ys K
  | [], [], [], K, _, _, h => by simpa [eqA] using h
  | [], _ :: _, _, _, h, _, _ => by cases h
  | [], [], _ :: _, _, _, h, _ => by cases h
  | _ :: _, [], _, _, h, _, _ => by cases h
  | _ :: _, _ :: _, [], _, _, h, _ => by cases h
  | c :: cs, x :: xs, y :: ys, K, h, h', hK => by
    simp only [cksV, Bool.and_eq_true] at h h'
    obtain ⟨hx, hxs⟩ := h
    obtain ⟨hy, hys⟩ := h'
    have key : ∀ b : Bool, b = decide (x = y) → eqA cs xs ys (kAnd b K) := fun b hb => by
      refine eqA_ck hxs hys ?_
      unfold kAnd
      have : (b && decide (xs = ys)) = decide (x :: xs = y :: ys) := by
        subst hb
        by_cases h1 : x = y <;> by_cases h2 : xs = ys <;> simp [h1, h2]
      rw [this]
      exact hK
    cases c <;> cases x <;> simp only [ckV, Bool.false_eq_true] at hx <;> cases y <;> simp only [ckV, Bool.false_eq_true] at hy
    · simp at hx hy
      subst hx hy
      exact ⟨rfl, rfl, key _ (by simp)⟩
    · rename_i a b
      exact key _ (by cases a <;> cases b <;> simp)
    · exact key _ (by simp)

theorem cksV_all {cs : List CK} {xs : List AV} (h : cksV cs xs = true) : cs.length = xs.length := by
  induction cs generalizing xs with
  | nil => cases xs <;> simp_all [cksV]
  | cons c cs ih =>
    cases xs with
    | nil => cases h
    | cons x xs => simp only [cksV, Bool.and_eq_true] at h; simp [ih h.2]

theorem cksV_repk : ∀ {cs : List CK} {xs : List AV}, cksV cs xs = true → ∀ (i : Nat) (c : AV) (v : Value), xs[i]? = some c → (xs.map kval1)[i]? = some v → RepA G w c v
  | [], [], _, i, c, v, hc, _ => by simp at hc
  | [], _ :: _, h, _, _, _, _, _ => by cases h
  | _ :: _, [], h, _, _, _, _, _ => by cases h
  | k :: ks, x :: xs, h, i, c, v, hc, hv => by
    simp only [cksV, Bool.and_eq_true] at h
    cases i with
    | zero =>
      simp at hc hv
      subst hc hv
      obtain ⟨h, _⟩ := h
      cases k <;> cases x <;> simp only [ckV, Bool.false_eq_true] at h
      · exact .int _ _
      · exact .bool _
      · exact .str _
    | succ i => exact cksV_repk h.2 i c v (by simpa using hc) (by simpa using hv)

theorem equal_st {t : Nat} {cs : List CK} {xs ys : List AV} (hst : stA P t = some cs) (hx : cksV cs xs = true) (hy : cksV cs ys = true) :
    (Op.equal t (.agg (xs.map kval1).toArray) (.agg (ys.map kval1).toArray)).run P w = .ok (decide (xs = ys)) w := by
  unfold stA at hst
  split at hst
  · rename_i fs hu
    split at hst
    · rename_i hc
      have hfo : P.fieldsOf t = fs := by simp [Program.fieldsOf, hu]
      have g : Gh := gh0 fun _ _ => False
      obtain ⟨r, hr, hK⟩ := cksOf_run (P := P) (G := g) (w := w) 9998 fs.toList 0 cs xs ys (xs.map kval1) (ys.map kval1) (fun r => r = decide (xs = ys)) hst (eqA_ck hx hy rfl)
        (fun i c v h1 h2 => cksV_repk hx i c v h1 (by simpa using h2)) (fun i c v h1 h2 => cksV_repk hy i c v h1 (by simpa using h2)) (by simp) (by simp)
      rw [← hK]
      show (Op.equalIn 10000 t _ _).run P w = _
      rw [run_equalIn_struct w 9999 t _ _ (by rw [hfo]; exact hu) hc.1, hfo]
      exact hr
    · cases hst
  · cases hst

theorem findAsking_ok {t : Nat} {cs : List CK} {xs : List AV} (hst : stA P t = some cs) (hx : cksV cs xs = true) : ∀ (es : List MapEntry) (ks vs : List AV) (n : Nat), EntsAt G w ks vs es → (∀ k' ∈ ks, ∃ ys, k' = .agg ys ∧ cksV cs ys = true) →
    ∃ r, (Instr.findAsking t (.agg (xs.map kval1).toArray) es n).run P w = .ok r w ∧ FindAt G w ks vs (.agg xs) n r
  | [], ks, vs, n, h, _ => by
    obtain ⟨h1, h2, _⟩ := h
    have : ks = [] := List.length_eq_zero_iff.1 h1.symm
    subst this
    have : vs = [] := List.length_eq_zero_iff.1 h2
    subst this
    exact ⟨none, by simp [Instr.findAsking], .inl ⟨rfl, rfl, fun _ => rfl⟩⟩
  | e :: es, ks, vs, n, h, ha => by
    obtain ⟨k', ks', v, vs', rfl, rfl, h1, h2, h3⟩ := h.cons
    obtain ⟨ys, rfl, hy⟩ := ha k' (List.mem_cons_self ..)
    have he : e.key = .agg (ys.map kval1).toArray := by
      generalize hv : e.key = q at h1
      cases h1 with
      | agg _ us l1 _ l2 => rw [cksV_rep hy l1 l2]
    rw [Instr.findAsking, he, Sem.run_bind, equal_st hst hx hy, Result.andThen_ok]
    by_cases hkk : xs = ys
    · subst hkk
      simp only [decide_true, if_true, Sem.run_pure]
      exact ⟨_, rfl, .hit h2⟩
    · simp only [hkk, decide_false, Bool.false_eq_true, if_false]
      obtain ⟨r, hr, hf⟩ := findAsking_ok hst hx es ks' vs' (n + 1) h3 (fun q hq => ha q (List.mem_cons_of_mem _ hq))
      exact ⟨r, hr, .miss (fun e => hkk (by cases e; rfl)) hf⟩

theorem isKey_of {t : Nat} {c : CK} {d : TypeDesc} {k : AV} (hd : P.underlying t = some d) (hc : ckOf P t = some c) (h : ckV c k = true) : MapKept.IsKey d (kval1 k) := by
  unfold ckOf at hc
  rw [hd] at hc
  cases c <;> cases k <;> simp only [ckV, Bool.false_eq_true] at h <;> cases d <;> simp at hc <;> simp [MapKept.IsKey, kval1]
  simp at h
  rw [h, hc]

theorem ckOf_under {t : Nat} {c : CK} (hc : ckOf P t = some c) : ∃ d, P.underlying t = some d := by
  unfold ckOf at hc
  split at hc <;> first | exact ⟨_, by assumption⟩ | cases hc

theorem checkFields {n : Nat} {em : Bool} {xs : List AV} {cs0 : List CK} (h0 : cksV cs0 xs = true) : ∀ (fs : List Field) (m : Nat) (cs : List CK), cksOf P m fs = some cs → cs0.drop m = cs →
    (forIn fs PUnit.unit (fun f (_ : PUnit) => if f.name ≠ "_" then do
        let v ← part f.type (xs.map kval1).toArray f.offset
        Instr.checkKey em (n + 1) f.type v
        pure (ForInStep.yield PUnit.unit)
      else pure (ForInStep.yield PUnit.unit)) : Sem PUnit).run P w = .ok PUnit.unit w
  | [], m, cs, _, _ => by simp
  | f :: fs, m, cs, hk, hd => by
    unfold cksOf at hk
    split at hk
    · rename_i hf
      split at hk
      · rename_i k hck
        split at hk
        · rename_i ks' hks
          cases hk
          have hm : m < cs0.length := by
            rcases Nat.lt_or_ge m cs0.length with h | h
            · exact h
            · rw [List.drop_eq_nil_of_le h] at hd; cases hd
          have hx : m < xs.length := by rw [← cksV_all h0]; exact hm
          have hkm : cs0[m]? = some k := by
            have := congrArg (fun l => l[0]?) hd
            simpa using this
          have hv : ∀ {cs : List CK} {xs : List AV}, cksV cs xs = true → ∀ (i : Nat) (c : CK) (x : AV), cs[i]? = some c → xs[i]? = some x → ckV c x = true := by
            intro cs
            induction cs with
            | nil => intro xs h i c x hc; simp at hc
            | cons c0 cs ih =>
              intro xs h i c x hc hx
              cases xs with
              | nil => cases h
              | cons x0 xs =>
                simp only [cksV, Bool.and_eq_true] at h
                cases i with
                | zero => simp at hc hx; subst hc hx; exact h.1
                | succ i => exact ih h.2 i c x (by simpa using hc) (by simpa using hx)
          have hxm := List.getElem?_eq_getElem hx
          have hck2 := hv h0 m k _ hkm hxm
          obtain ⟨d, hud⟩ := ckOf_under hck
          have p1 : (part f.type (xs.map kval1).toArray f.offset).run P w = .ok (kval1 xs[m]) w := by
            rw [hf.1]
            exact part_one hck _ m _ (by rw [List.getElem?_map, hxm]; rfl)
          have p2 := MapKept.run_checkKey (w := w) hud (isKey_of hud hck hck2) em n
          simp only [List.forIn_cons, Sem.run_bind, hf.2, ne_eq, not_false_eq_true, if_true, p1, p2, Result.andThen_ok, Sem.run_pure]
          exact checkFields h0 fs (m + 1) ks' hks (by rw [← List.drop_drop, hd]; rfl)
        · cases hk
      · cases hk
    · cases hk

theorem checkKey_ok {t : Nat} {k : AV} (h : keyA P t k = true) (em : Bool) : (Instr.checkKey em 10000 t (kval k)).run P w = .ok () w := by
  cases k with
  | agg xs =>
    simp only [keyA] at h
    split at h
    · rename_i cs hst
      unfold stA at hst
      split at hst
      · rename_i fs hu
        split at hst
        · rename_i hc
          show (Instr.checkKey em (9999 + 1) t (.agg (xs.map kval1).toArray)).run P w = _
          rw [Instr.checkKey]
          simp only [Sem.run_bind, run_underlying hu, Result.andThen_ok]
          rw [← Array.forIn_toList]
          have := checkFields (P := P) (w := w) (n := 9998) (em := em) h fs.toList 0 cs hst rfl
          rw [this]
          rfl
        · cases hst
      · cases hst
    · cases h
  | _ =>
    simp only [keyA] at h
    split at h
    · rename_i c hc
      obtain ⟨d, hud⟩ := ckOf_under hc
      exact MapKept.run_checkKey (w := w) hud (isKey_of hud hc h) em 9999
    · cases h

theorem findKey_ok {t : Nat} {k : AV} (h : keyA P t k = true) {es : List MapEntry} {ks vs : List AV} (hE : EntsAt G w ks vs es) (hks : ks.all (keyA P t) = true) :
    ∃ r, (Instr.findKey t (kval k) es).run P w = .ok r w ∧ FindAt G w ks vs k 0 r := by
  have hall := List.all_eq_true.1 hks
  cases hst : stA P t with
  | some cs =>
    have hsu : ∃ fs, P.underlying t = some (.struct fs) := by
      unfold stA at hst
      split at hst
      · exact ⟨_, by assumption⟩
      · cases hst
    obtain ⟨fs, hu⟩ := hsu
    have hck : ckOf P t = none := by unfold ckOf; rw [hu]
    have agg : ∀ q, keyA P t q = true → ∃ ys, q = .agg ys ∧ cksV cs ys = true := by
      intro q hq
      cases q with
      | agg ys => simp only [keyA, hst] at hq; exact ⟨ys, rfl, hq⟩
      | _ => simp [keyA, hck] at hq
    obtain ⟨xs, rfl, hx⟩ := agg k h
    obtain ⟨r, hr, hf⟩ := findAsking_ok (P := P) hst hx es ks vs 0 hE (fun q hq => agg q (hall q hq))
    refine ⟨r, ?_, hf⟩
    simp only [kval, Instr.findKey, Sem.run_bind, run_underlying hu, Result.andThen_ok]
    cases es with
    | nil =>
      simp only [Instr.findNow]
      simp only [Instr.findAsking] at hr
      exact hr
    | cons e es =>
      simp only [Instr.findNow, Instr.sameNow]
      exact hr
  | none =>
    cases hc : ckOf P t with
    | none => cases k <;> simp [keyA, hst, hc] at h
    | some c =>
      obtain ⟨d, hud⟩ := ckOf_under hc
      have one : ∀ q, keyA P t q = true → ckV c q = true := by
        intro q hq
        cases q <;> simp_all [keyA]
      obtain ⟨r, hr, hf⟩ := findNow_ok (G := G) (w := w) hud hc (one k h) es ks vs 0 hE (fun q hq => one q (hall q hq))
      refine ⟨r, ?_, hf⟩
      have hkv : kval k = kval1 k := by cases k <;> first | rfl | (simp [keyA, hst] at h)
      rw [hkv]
      exact MapKept.run_findKey hud hr

theorem sameBits_k {c : CK} {k : AV} (h : ckV c k = true) (n : Nat) : Instr.sameBits n (kval1 k) (kval1 k) = true := by
  cases c <;> cases k <;> simp only [ckV, Bool.false_eq_true] at h <;> cases n <;> simp [kval1, Instr.sameBits, MapKept.bytes_beq]

theorem stays_ok {t : Nat} {k : AV} (h : keyA P t k = true) : (Instr.keyThatStays (kval k) (kval k)).run P w = .ok (kval k) w := by
  have hs : Instr.sameBits 10000 (kval k) (kval k) = true := by
    cases k with
    | agg xs =>
      simp only [keyA] at h
      split at h
      · rename_i cs hst
        show Instr.sameBits (9999 + 1) (.agg _) (.agg _) = true
        simp only [Instr.sameBits, beq_self_eq_true, Bool.true_and, List.all_eq_true]
        intro p hp
        obtain ⟨i, hi, e⟩ := List.getElem_of_mem hp
        rw [List.getElem_zip] at e
        rw [← e]
        have aux : ∀ {cs : List CK} {xs : List AV}, cksV cs xs = true → ∀ x ∈ xs, ∃ c, ckV c x = true := by
          intro cs
          induction cs with
          | nil => intro xs h x hx; cases xs with
            | nil => cases hx
            | cons _ _ => cases h
          | cons c0 cs ih =>
            intro xs h x hx
            cases xs with
            | nil => cases h
            | cons x0 xs =>
              simp only [cksV, Bool.and_eq_true] at h
              rcases List.mem_cons.1 hx with rfl | hx
              · exact ⟨_, h.1⟩
              · exact ih h.2 x hx
        simp only [List.getElem_map]
        obtain ⟨c, hc⟩ := aux h _ (List.getElem_mem (by simpa using hi))
        exact sameBits_k hc _
      · cases h
    | _ =>
      simp only [keyA] at h
      split at h
      · exact sameBits_k h _
      · cases h
  simp [Instr.keyThatStays, hs]
end

/-- The zero value of a map's elements. -/
def zvA (P : Program) (t : Nat) : Option AV := match P.info? t with
  | some i => (match i.zero, zeroA P t with
    | some (.agg _), some zs => some (.agg zs)
    | some v, some [z] => if oneCell v = true then some z else none
    | _, _ => none)
  | none => none

theorem zvA_ok {P : Program} {G : Gh} {w : World} {t : Nat} {z : AV} (h : zvA P t = some z) : ∃ v, (zeroValue t).run P w = .ok v w ∧ RepA G w z v := by
  unfold zvA at h
  split at h
  · rename_i i hi
    split at h
    · rename_i cs zs hz0 hz
      cases h
      obtain ⟨i', v, h1, h2, h3, h4⟩ := zeroA_of hz
      rw [hi] at h1
      cases h1
      rw [hz0] at h2
      cases h2
      refine ⟨.agg cs, by simp [zeroValue, typeInfo, hi, hz0], ?_⟩
      have := (h4 G w).toAgg
      simpa [Value.cells] using this
    · rename_i v z0 _ hz0 hz
      split at h
      · rename_i ho
        cases h
        obtain ⟨i', v', h1, h2, h3, h4⟩ := zeroA_of hz
        rw [hi] at h1
        cases h1
        rw [hz0] at h2
        cases h2
        refine ⟨v, by simp [zeroValue, typeInfo, hi, hz0], ?_⟩
        have hc : v.cells.toList = [v] := by cases v <;> first | rfl | cases ho
        refine (h4 G w).rep 0 z v rfl ?_
        rw [hc]
        rfl
      · cases h
    · cases h
  · cases h

/-- A map type's keys, and what is read where there is none. -/
def mapA (P : Program) (t : Nat) : Option (Nat × AV) := match P.underlying t with
  | some (.map k e) => match zvA P e with
    | some z => some (k, z)
    | none => none
  | _ => none

theorem mapA_of {P : Program} {t k : Nat} {z : AV} (h : mapA P t = some (k, z)) : ∃ e, P.underlying t = some (.map k e) ∧ zvA P e = some z := by
  unfold mapA at h
  split at h
  · rename_i k' e hu
    split at h
    · rename_i z' hz
      cases h
      exact ⟨e, hu, hz⟩
    · cases h
  · cases h

def okV (ok : Bool) (v : AV) (b : Bool) : AV := match ok with
  | true => .tup [v, .bool b]
  | false => v
def mgK (ok : Bool) (z : AV) (K : AV → Prop) (r : Option AV) : Prop := match r with
  | some v => K (okV ok v true)
  | none => K (okV ok z false)
def lookC (P : Program) (t : Nat) (cs : List AV) (k : AV) (ok : Bool) (K : AV → Prop) : Prop := match cs with
  | [.mapc ks vs] => match mapA P t with
    | some (kt, z) => keyA P kt k = true ∧ ks.all (keyA P kt) = true ∧ mgK ok z K (mget ks vs k)
    | none => False
  | _ => False
def exLookup (P : Program) (m : AH) (t : Nat) (x k : AV) (ok : Bool) (K : AV → Prop) : Prop := match x with
  | .mref l => match m.cells l with
    | some cs => lookC P t cs k ok K
    | none => False
  | _ => False

theorem mref_at {E : Env} {G : Gh} {m : AH} {w : World} (hi : Inv E G m w) {l : Loc} {cs : List AV} {b : Nat} (hb : G.bx l = some (b, mapMark)) (hc : m.cells l = some cs) :
    MapAt E G w b cs ∧ G.who b = some (.inl l) ∧ (E.may b ∨ E.w0.heap.size ≤ b) ∧ (∀ i, ¬ G.st b i) := by
  obtain ⟨b', o', h1, h2, h3, h4, _, h6⟩ := hi.box l cs hc
  rw [hb] at h1
  cases h1
  exact ⟨h6 rfl, h2, h3, h4⟩

theorem exLookup_ok {P : Program} {E : Env} {G : Gh} {m : AH} {w : World} {t : Nat} {x k : AV} {ok : Bool} {xv kv : Value} {K : AV → Prop} (h : exLookup P m t x k ok K) (hi : Inv E G m w) (hx : RepA G w x xv) (hk : RepA G w k kv) :
    ∃ v u, (Instr.lookup t xv kv ok).run P w = .ok u w ∧ RepA G w v u ∧ K v := by
  unfold exLookup at h
  split at h
  · rename_i l
    split at h
    · rename_i cs hcs
      cases hx with
      | mref _ b hb =>
        obtain ⟨⟨ks, vs, es, cl, rfl, hes, hE⟩ | ⟨_, _, _, _, _, rfl, _⟩, _⟩ := mref_at hi hb hcs
        rotate_left
        · exact h.elim
        unfold lookC at h
        simp only at h
        split at h
        · rename_i kt z hm
          obtain ⟨e, hu, hz⟩ := mapA_of hm
          obtain ⟨h1, h2, h3⟩ := h
          rw [keyA_rep h1 hk]
          obtain ⟨r, hr, hf⟩ := findKey_ok (P := P) h1 hE h2
          have hck := fun em => checkKey_ok (P := P) (w := w) h1 em
          obtain ⟨zv, hzv, hzr⟩ := zvA_ok (P := P) (G := G) (w := w) hz
          rcases hf with ⟨rfl, g2, _⟩ | ⟨i, xx, v, rfl, _, _, g4, g5, _⟩
          · rw [g2] at h3
            refine ⟨okV ok z false, if ok then .tuple #[zv, .bool false] else zv, ?_, ?_, h3⟩
            · simp only [Instr.lookup, Sem.run_bind, run_underlying hu, Result.andThen_ok, MapKept.run_getObj_map hes, Sem.run_pure, hck, hr, hzv]
            · cases ok with
              | false => exact hzr
              | true => exact .tup [z, .bool false] [zv, .bool false] rfl (fun i c v hc hv => by
                  match i, hc, hv with
                  | 0, hc, hv => cases hc; cases hv; exact hzr
                  | 1, hc, hv => cases hc; cases hv; exact .bool _)
          · rw [g4] at h3
            refine ⟨okV ok v true, if ok then .tuple #[xx, .bool true] else xx, ?_, ?_, h3⟩
            · simp only [Instr.lookup, Sem.run_bind, run_underlying hu, Result.andThen_ok, MapKept.run_getObj_map hes, Sem.run_pure, hck, hr]
            · cases ok with
              | false => exact g5
              | true => exact .tup [v, .bool true] [xx, .bool true] rfl (fun i c v hc hv => by
                  match i, hc, hv with
                  | 0, hc, hv => cases hc; cases hv; exact g5
                  | 1, hc, hv => cases hc; cases hv; exact .bool _)
        · exact h.elim
    · exact h.elim
  · exact h.elim

def upC (P : Program) (t : Nat) (m : AH) (l : Loc) (cs : List AV) (k v : AV) (K : AH → Prop) : Prop := match cs with
  | [.mapc ks vs] => match mapA P t with
    | some (kt, _) => keyA P kt k = true ∧ ks.all (keyA P kt) = true ∧ K (m.setCells l [mapP (mset ks vs k v)])
    | none => False
  | _ => False
def exUpdate (P : Program) (m : AH) (t : Nat) (x k v : AV) (K : AH → Prop) : Prop := match x with
  | .mref l => match m.cells l with
    | some cs => upC P t m l cs k v K
    | none => False
  | _ => False

/-- Another content of a map. -/
theorem Inv.setMap {E : Env} {G : Gh} {m : AH} {w : World} (h : Inv E G m w) {l : Loc} {cs ks vs : List AV} {b cl cl' : Nat} {es es' : Array MapEntry} (hc : m.cells l = some cs) (hb : G.bx l = some (b, mapMark)) (hes : w.heap[b]? = some (.map es cl))
    (hE : EntsAt G w ks vs es'.toList) :
    Ext G w G { w with heap := w.heap.setIfInBounds b (.map es' cl') } ∧ Inv E G (m.setCells l [.mapc ks vs]) { w with heap := w.heap.setIfInBounds b (.map es' cl') } := by
  obtain ⟨_, hwho, hmay, hst⟩ := mref_at h hb hc
  have hlt : b < w.heap.size := (Array.getElem?_eq_some_iff.1 hes).1
  have hne : ∀ k, k ≠ b → ({ w with heap := w.heap.setIfInBounds b (.map es' cl') } : World).heap[k]? = w.heap[k]? := fun k hk => by simp [Ne.symm hk]
  have hx : Ext G w G { w with heap := w.heap.setIfInBounds b (.map es' cl') } := by
    refine ⟨fun _ _ x => x, fun b2 o2 hs => ?_, fun _ _ x => x, Nat.le_refl _, fun _ _ _ x => x⟩
    exact cell_of_heap (hne b2 (fun e => hst o2 (e ▸ hs))) o2
  refine ⟨hx, ?_⟩
  refine h.but (N := b) hx ⟨rfl, rfl, rfl, by simp, hne, fun _ _ => rfl, fun _ _ _ => Iff.rfl⟩ hmay (fun l2 cs2 hc2 => ?_) (fun t g hg => ?_) (fun i hi => .inl ⟨?_, rfl, by rw [hwho]; simp⟩) (fun i hi => ?_) ?_ (by simpa using hlt)
  · rw [setCells_cells _ hc] at hc2
    by_cases hl2 : l = l2
    · subst hl2
      rw [if_pos rfl] at hc2
      cases hc2
      refine .inr ⟨b, mapMark, hb, hwho, hmay, hst, fun e => absurd rfl e, fun _ => .inl ⟨ks, vs, es', cl', rfl, by simp [hlt], hE.ext hx⟩⟩
    · rw [if_neg hl2] at hc2
      exact .inl ⟨hc2, by rw [hwho]; intro e; cases e; exact hl2 rfl⟩
  · refine h.gen t g ?_
    have e := setCells_gen [AV.mapc ks vs] hc t
    rcases hg with hg | ⟨g', cs', hg, hlt⟩
    · rw [hg] at e
      cases hh : hget m.h t with
      | none => exact .inl rfl
      | some y => rw [hh] at e; cases e
    · rw [hg] at e
      cases hh : hget m.h t with
      | none => rw [hh] at e; cases e
      | some y =>
        obtain ⟨g1, cs1⟩ := y
        rw [hh] at e
        simp only [Option.map_some, Option.some.injEq] at e
        subst e
        exact .inr ⟨_, cs1, rfl, hlt⟩
  · cases l <;> exact hi
  · have : m.lv i := by cases l <;> exact hi
    have := h.lt i this
    cases l <;> exact this
  · have := h.nx
    cases l <;> exact this

theorem exUpdate_ok {P : Program} {E : Env} {G : Gh} {m : AH} {w : World} {t : Nat} {x k v : AV} {xv kv vv : Value} {K : AH → Prop} (h : exUpdate P m t x k v K) (hi : Inv E G m w) (hx : RepA G w x xv) (hk : RepA G w k kv) (hv : RepA G w v vv) :
    ∃ m' w', (Instr.mapUpdate t xv kv vv).run P w = .ok () w' ∧ Ext G w G w' ∧ Inv E G m' w' ∧ K m' := by
  unfold exUpdate at h
  split at h
  · rename_i l
    split at h
    · rename_i cs hcs
      cases hx with
      | mref _ b hb =>
        obtain ⟨⟨ks, vs, es, cl, rfl, hes, hE⟩ | ⟨_, _, _, _, _, rfl, _⟩, _⟩ := mref_at hi hb hcs
        rotate_left
        · exact h.elim
        unfold upC at h
        simp only at h
        split at h
        · rename_i kt z hm
          obtain ⟨e, hu, hz⟩ := mapA_of hm
          obtain ⟨h1, h2, h3⟩ := h
          have ek := keyA_rep h1 hk
          subst ek
          obtain ⟨r, hr, hf⟩ := findKey_ok (P := P) h1 hE h2
          have hck := fun em => checkKey_ok (P := P) (w := w) h1 em
          rcases hf with ⟨rfl, _, g2⟩ | ⟨i, xx, v0, rfl, g1, g2, _, g5, g6⟩
          · rw [g2] at h3
            have hE2 : EntsAt G w (ks ++ [k]) (vs ++ [v]) (es.push { key := kval k, val := vv, born := cl }).toList := by
              obtain ⟨e1, e2, e3⟩ := hE
              refine ⟨by simpa using e1, by simpa using e2, fun i k' v' e' a b c => ?_⟩
              simp only [Array.toList_push] at c
              by_cases hi : i < ks.length
              · rw [List.getElem?_append_left hi] at a
                rw [List.getElem?_append_left (by omega)] at b
                rw [List.getElem?_append_left (by omega)] at c
                exact e3 i k' v' e' a b c
              · rw [List.getElem?_append_right (by omega)] at a b c
                rw [e1] at c
                rw [e2] at b
                cases hd : i - ks.length with
                | zero =>
                  rw [hd] at a b c
                  cases a; cases b; cases c
                  exact ⟨hk, hv⟩
                | succ j => rw [hd] at a; cases a
            obtain ⟨f1, f2⟩ := hi.setMap (cl' := cl + 1) hcs hb hes hE2
            refine ⟨_, _, ?_, f1, f2, h3⟩
            simp only [Instr.mapUpdate, Sem.run_bind, run_underlying hu, Result.andThen_ok, MapKept.run_getObj_map hes, hck, hr, MapKept.run_setObj_map _ hes]
          · rw [Nat.zero_add] at hr
            rw [g6] at h3
            have hil : i < es.toList.length := by rw [hE.1]; exact (List.getElem?_eq_some_iff.1 g1).1
            have hei : es[i]? = some es[i] := Array.getElem?_eq_getElem (by simpa using hil)
            have hke : (es[i]'(by simpa using hil)).key = kval k := keyA_rep h1 (hE.2.2 i k v0 _ g1 g2 (by simp)).1
            have hE2 : EntsAt G w ks (vs.set i v) (es.modify i fun e => { e with key := kval k, val := vv }).toList := by
              obtain ⟨e1, e2, e3⟩ := hE
              refine ⟨by simpa using e1, by simpa using e2, fun j k' v' e' a b c => ?_⟩
              simp only [Array.getElem?_toList, Array.getElem?_modify] at c
              by_cases hij : i = j
              · subst hij
                rw [g1] at a
                cases a
                rw [hei] at c
                simp only [if_true, Option.map_some, Option.some.injEq] at c
                rw [← c]
                rw [List.getElem?_set_self (by rw [e2]; exact (List.getElem?_eq_some_iff.1 g1).1)] at b
                cases b
                exact ⟨hk, hv⟩
              · rw [if_neg hij] at c
                rw [List.getElem?_set_ne hij] at b
                exact e3 j k' v' e' a b (by simpa using c)
            obtain ⟨f1, f2⟩ := hi.setMap (cl' := cl) hcs hb hes hE2
            refine ⟨_, _, ?_, f1, f2, h3⟩
            have hst := stays_ok (P := P) (w := w) h1
            simp only [Instr.mapUpdate, Sem.run_bind, run_underlying hu, Result.andThen_ok, MapKept.run_getObj_map hes, hck, hr, hei, Option.map_some, Option.getD_some, hke, hst, MapKept.run_setObj_map _ hes]
        · exact h.elim
    · exact h.elim
  · exact h.elim

/-- A new map. -/
theorem Inv.newMap {E : Env} {G : Gh} {m : AH} {w : World} (h : Inv E G m w) (t : Nat) :
    ∃ G', Ext G w G' (w.alloc (.map #[] 0)) ∧ Inv E G' (m.newBox t [.mapc [] []]) (w.alloc (.map #[] 0)) ∧ G'.bx (.own t (gnext m t)) = some (w.heap.size, mapMark) := by
  let N := w.heap.size
  let g := gnext m t
  have hbx : G.bx (.own t g) = none := by
    apply h.gen
    show hget m.h t = none ∨ _
    simp only [g, gnext]
    cases hg : hget m.h t with
    | none => exact .inl rfl
    | some x => obtain ⟨g', cs'⟩ := x; exact .inr ⟨g', cs', rfl, by simp⟩
  have hx : Ext G w { G with bx := updL G.bx (.own t g) (some (N, mapMark)), who := updN G.who N (some (.inl (.own t g))) } (w.alloc (.map #[] 0)) := by
    refine ⟨fun b o hs => hs, fun b o hs => World.cell?_alloc_lt w _ _ (st_lt h hs), fun l y hy => ?_, Nat.le_refl _, fun i x _ hx => hx⟩
    show updL G.bx (.own t g) (some (N, mapMark)) l = some y
    have hne : l ≠ .own t g := fun e => by subst e; rw [hbx] at hy; cases hy
    rw [updL_ne _ _ hne]; exact hy
  refine ⟨_, hx, ?_, by simp [updL, N, g]⟩
  refine h.but (N := N) hx ⟨rfl, rfl, rfl, by simp, fun b hb => ?_, fun b hb => updN_ne _ _ hb, fun b hb j => Iff.rfl⟩ (.inr h.kept.size) (fun l cs' hc => ?_) (fun t' g' hg => ?_) (fun i hi => .inl ⟨hi, rfl, ?_⟩) h.lt h.nx (by simp [N])
  · show (w.heap.push _)[b]? = _
    rw [Array.getElem?_push, if_neg hb]
  · by_cases hl' : l = .own t g
    · subst hl'
      right
      have : m.newBox t [.mapc [] []] = { m with h := hset m.h t g [.mapc [] []] } := rfl
      rw [this] at hc
      simp only [AH.cells, hget_set_self, if_true] at hc
      cases hc
      refine ⟨N, mapMark, updL_self _ _ _, updN_self _ _ _, .inr h.kept.size, fun i hs => absurd (st_lt h hs) (by simp [N]), fun e => absurd rfl e, fun _ => .inl ⟨[], [], #[], 0, rfl, ?_, rfl, rfl, by simp⟩⟩
      show (w.heap.push _)[N]? = _
      simp [N]
    · left
      refine ⟨?_, by rw [(h.fresh N (Nat.le_refl _)).1]; simp⟩
      cases l with
      | out k => exact hc
      | own t' g' =>
        simp only [AH.newBox, AH.cells] at hc ⊢
        by_cases ht : t = t'
        · subst ht
          rw [hget_set_self] at hc
          have : ¬ g' = gnext m t := fun e => hl' (by rw [e])
          simp [this] at hc
        · rw [hget_set_ne _ _ _ ht] at hc
          exact hc
  · show updL G.bx (.own t g) (some (N, mapMark)) (.own t' g') = none
    by_cases ht : t = t'
    · subst ht
      simp only [AH.newBox, hget_set_self] at hg
      rcases hg with hg | ⟨g2, cs2, hg, hlt⟩
      · cases hg
      · cases hg
        rw [updL_ne _ _ (by intro e; cases e; exact absurd hlt (Nat.lt_irrefl _))]
        apply h.gen
        simp only [gnext] at hlt
        cases hh : hget m.h t with
        | none => exact .inl rfl
        | some x => obtain ⟨g3, cs3⟩ := x; rw [hh] at hlt; exact .inr ⟨g3, cs3, rfl, by simp at hlt; omega⟩
    · rw [updL_ne _ _ (by intro e; cases e; exact ht rfl)]
      apply h.gen
      simpa only [AH.newBox, hget_set_ne _ _ _ ht] using hg
  · rw [(h.fresh N (Nat.le_refl _)).1]; simp

/-! Calls that share the caller's memory. -/
theorem MapAt.env {E E' : Env} {G : Gh} {w : World} {b : Nat} {cs : List AV} (h : MapAt E G w b cs) (up : ∀ b, E.may b ∨ E.w0.heap.size ≤ b → E'.may b ∨ E'.w0.heap.size ≤ b) : MapAt E' G w b cs := by
  rcases h with h | ⟨T, e, s, p, v, g1, g2, g3, g4⟩
  · exact .inl h
  · refine .inr ⟨T, e, s, p, v, g1, g2, g3, ?_⟩
    rcases g4 with g4 | ⟨g, cap, cur, fz, e1, e2, e3, e4, e5, e6, e7⟩
    · exact .inl g4
    · exact .inr ⟨g, cap, cur, fz, e1, e2, e3, e4, e5, up g e6, e7⟩

/-- Is this the library's builder of strings, and of what type is its buffer's element? -/
def bldF (P : Program) (fs : List Field) : Option Nat := match fs with
  | [a, b] => match a.name == "addr" && a.pkgPath == "strings" && b.name == "buf" with
    | true => match P.underlying b.type with
      | some (.slice e) => some e
      | _ => none
    | false => none
  | _ => none
def bldZ : List Value → Bool
  | [.pointer none, .slice none 0 0] => true
  | _ => false
def bldI (P : Program) (i : TypeInfo) (t : Nat) : Option Nat := match i.zero, P.underlying t with
  | some v, some (.struct fs) => match bldZ v.cells.toList with
    | true => bldF P fs.toList
    | false => none
  | _, _ => none
def bldT (P : Program) (t : Nat) : Option Nat := match P.info? t with
  | some i => bldI P i t
  | none => none

theorem bldT_of {P : Program} {t e : Nat} (h : bldT P t = some e) : ∃ i v, P.info? t = some i ∧ i.zero = some v ∧ v.cells = #[.pointer none, .slice none 0 0] := by
  unfold bldT at h
  split at h
  · rename_i i hi
    unfold bldI at h
    split at h
    · rename_i v fs hv hu
      split at h
      · rename_i hz
        refine ⟨i, v, hi, hv, ?_⟩
        unfold bldZ at hz
        split at hz
        · rename_i hl
          apply Array.ext'
          exact hl
        · cases hz
      · cases h
    · cases h
  · cases h

/-- A new builder. -/
theorem Inv.newBld {E : Env} {G : Gh} {m : AH} {w : World} (h : Inv E G m w) (t T e : Nat) :
    ∃ G', Ext G w G' (w.alloc (.cells #[.pointer none, .slice none 0 0] T)) ∧ Inv E G' (m.newBox t [.bld T e []]) (w.alloc (.cells #[.pointer none, .slice none 0 0] T)) ∧ G'.bx (.own t (gnext m t)) = some (w.heap.size, mapMark) := by
  let N := w.heap.size
  let g := gnext m t
  have hbx : G.bx (.own t g) = none := by
    apply h.gen
    show hget m.h t = none ∨ _
    simp only [g, gnext]
    cases hg : hget m.h t with
    | none => exact .inl rfl
    | some x => obtain ⟨g', cs'⟩ := x; exact .inr ⟨g', cs', rfl, by simp⟩
  have hx : Ext G w { G with bx := updL G.bx (.own t g) (some (N, mapMark)), who := updN G.who N (some (.inl (.own t g))) } (w.alloc (.cells #[.pointer none, .slice none 0 0] T)) := by
    refine ⟨fun b o hs => hs, fun b o hs => World.cell?_alloc_lt w _ _ (st_lt h hs), fun l y hy => ?_, Nat.le_refl _, fun i x _ hx => hx⟩
    show updL G.bx (.own t g) (some (N, mapMark)) l = some y
    have hne : l ≠ .own t g := fun e => by subst e; rw [hbx] at hy; cases hy
    rw [updL_ne _ _ hne]; exact hy
  refine ⟨_, hx, ?_, by simp [updL, N, g]⟩
  refine h.but (N := N) hx ⟨rfl, rfl, rfl, by simp, fun b hb => ?_, fun b hb => updN_ne _ _ hb, fun b hb j => Iff.rfl⟩ (.inr h.kept.size) (fun l cs' hc => ?_) (fun t' g' hg => ?_) (fun i hi => .inl ⟨hi, rfl, ?_⟩) h.lt h.nx (by simp [N])
  · show (w.heap.push _)[b]? = _
    rw [Array.getElem?_push, if_neg hb]
  · by_cases hl' : l = .own t g
    · subst hl'
      right
      have : m.newBox t [.bld T e []] = { m with h := hset m.h t g [.bld T e []] } := rfl
      rw [this] at hc
      simp only [AH.cells, hget_set_self, if_true] at hc
      cases hc
      refine ⟨N, mapMark, updL_self _ _ _, updN_self _ _ _, .inr h.kept.size, fun i hs => absurd (st_lt h hs) (by simp [N]), fun e => absurd rfl e, fun _ => .inr ⟨T, e, [], _, _, rfl, ?_, .inl rfl, .inl ⟨rfl, rfl⟩⟩⟩
      show (w.heap.push _)[N]? = _
      simp [N]
    · left
      refine ⟨?_, by rw [(h.fresh N (Nat.le_refl _)).1]; simp⟩
      cases l with
      | out k => exact hc
      | own t' g' =>
        simp only [AH.newBox, AH.cells] at hc ⊢
        by_cases ht : t = t'
        · subst ht
          rw [hget_set_self] at hc
          have : ¬ g' = gnext m t := fun e => hl' (by rw [e])
          simp [this] at hc
        · rw [hget_set_ne _ _ _ ht] at hc
          exact hc
  · show updL G.bx (.own t g) (some (N, mapMark)) (.own t' g') = none
    by_cases ht : t = t'
    · subst ht
      simp only [AH.newBox, hget_set_self] at hg
      rcases hg with hg | ⟨g2, cs2, hg, hlt⟩
      · cases hg
      · cases hg
        rw [updL_ne _ _ (by intro e; cases e; exact absurd hlt (Nat.lt_irrefl _))]
        apply h.gen
        simp only [gnext] at hlt
        cases hh : hget m.h t with
        | none => exact .inl rfl
        | some x => obtain ⟨g3, cs3⟩ := x; rw [hh] at hlt; exact .inr ⟨g3, cs3, rfl, by simp at hlt; omega⟩
    · rw [updL_ne _ _ (by intro e; cases e; exact ht rfl)]
      apply h.gen
      simpa only [AH.newBox, hget_set_ne _ _ _ ht] using hg
  · rw [(h.fresh N (Nat.le_refl _)).1]; simp

/-! Calls that share the caller's memory. -/
def shareE (E : Env) (G : Gh) (w : World) : Env := ⟨w, fun b => E.may b ∨ E.w0.heap.size ≤ b, G, none, [], []⟩

theorem Inv.share {E : Env} {G : Gh} {m : AH} {w : World} (h : Inv E G m w) : Inv (shareE E G w) G m w := by
  refine ⟨⟨rfl, rfl, rfl, Nat.le_refl _, fun _ _ _ => rfl⟩, fun l cs hc => ?_, h.gen, fun i hi => ?_, h.lt, h.nx, h.fresh, Ext.refl _ _, fun b o hs _ => .inl hs⟩
  · obtain ⟨b, o, h1, h2, h3, h4, h5, h6⟩ := h.box l cs hc
    exact ⟨b, o, h1, h2, .inl h3, h4, h5, fun h0 => (h6 h0).env (fun _ hb => .inl hb)⟩
  · rcases h.tok i hi with ht | ⟨b, o, n, c, z, cells, ty, t1, t2, t3, t4⟩
    · exact .inl ht
    · exact .inr ⟨b, o, n, c, z, cells, ty, t1, t2, .inl t3, t4⟩

theorem Inv.unshare {E : Env} {G G' : Gh} {m m' : AH} {w w' : World} (h : Inv E G m w) (hi : Inv (shareE E G w) G' m' w') : Ext G w G' w' ∧ Inv E G' m' w' := by
  refine ⟨hi.ext, ?_⟩
  have up : ∀ b, (shareE E G w).may b ∨ w.heap.size ≤ b → E.may b ∨ E.w0.heap.size ≤ b := fun b hb => by
    rcases hb with hb | hb
    · exact hb
    · exact .inr (Nat.le_trans h.kept.size hb)
  refine ⟨h.kept.heap hi.kept.os hi.kept.tape hi.kept.output hi.kept.size (fun b hb hm => hi.kept.block b (Nat.lt_of_lt_of_le hb h.kept.size) (fun hm' => ?_)), fun l cs hc => ?_, hi.gen, fun i hl => ?_, hi.lt, hi.nx, hi.fresh, h.ext.trans hi.ext, fun b o hs hb => ?_⟩
  · rcases hm' with h1 | h1
    · exact hm h1
    · omega
  · obtain ⟨b, o, h1, h2, h3, h4, h5, h6⟩ := hi.box l cs hc
    exact ⟨b, o, h1, h2, up b h3, h4, h5, fun h0 => (h6 h0).env up⟩
  · rcases hi.tok i hl with ht | ⟨b, o, n, c, z, cells, ty, t1, t2, t3, t4⟩
    · exact .inl ht
    · exact .inr ⟨b, o, n, c, z, cells, ty, t1, t2, up b t3, t4⟩
  · rcases hi.st1 b o hs (Nat.lt_of_lt_of_le hb h.kept.size) with h1 | h1
    · exact h.st1 b o h1 hb
    · rcases h1 with h2 | h2
      · exact .inr h2
      · omega

theorem TabsOk.share {P : Program} {E : Env} {G : Gh} {m : AH} {w : World} (hT : TabsOk P E) (h : Inv E G m w) : TabsOk P (shareE E G w) := fun w' k => by
  refine hT w' (h.kept.heap k.os k.tape k.output k.size (fun b hb hm => k.block b (Nat.lt_of_lt_of_le hb h.kept.size) (fun hm' => ?_)))
  rcases hm' with h1 | h1
  · exact hm h1
  · omega

/-- A call that works in the caller's own memory. -/
def inlK (P : Program) (k : Nat) (args : List AV) (σ : AS) (dst : Option Nat) (K : AS → Prop) : Prop :=
  ∃ R, QCall P k σ.m args R ∧ ∀ m' r, R m' r → K (AS.put ⟨σ.s, m'⟩ dst r)

theorem inlK_ok {P : Program} {E : Env} {k : Nat} {args : List AV} {σ : AS} {dst : Option Nat} {K : AS → Prop} {G : Gh} {w : World} {vs : List Value} (hT : TabsOk P E) (h : inlK P k args σ dst K) (hi : Inv E G σ.m w) (hr : RepArgs G w args vs) :
    Calls P k vs.toArray w fun e w' => ∃ v m2 r2 G2, e = .returned v ∧ Ext G w G2 w' ∧ Inv E G2 m2 w' ∧ RepA G2 w' r2 v ∧ K (AS.put ⟨σ.s, m2⟩ dst r2) := by
  obtain ⟨R, h1, h2⟩ := h
  unfold QCall at h1
  refine (h1 (shareE E G w) G w vs (hT.share hi) rfl rfl hi.share hr).mono ?_
  rintro e w' ⟨v, r, G', m', rfl, g1, g2, g3⟩
  obtain ⟨e1, e2⟩ := hi.unshare g1
  exact ⟨v, m', r, G', rfl, e1, e2, g2, h2 m' r g3⟩

attribute [irreducible] inlK

end Go.AB

/- Appending to a slice of one's own array that is still written to. -/
namespace Go.AB
open Classical

section
variable {P : Program} {G : Gh} {w : World}
theorem madeA_rep {zs : List AV} {vs : List Value} (h : RepL G w zs vs) (n : Nat) : RepL G w (madeA zs n) (madeCells vs.toArray (n * vs.length)).toList := by
  have hlen : (madeA zs n).length = n * zs.length := by simp [madeA]
  have hget : ∀ i, i < n * zs.length → (madeA zs n)[i]? = zs[i % zs.length]? := by
    intro i hi
    unfold madeA
    clear hlen
    induction n generalizing i with
    | zero => simp at hi
    | succ n ih =>
      rw [List.replicate_succ, List.flatten_cons]
      rw [Nat.add_mul, Nat.one_mul] at hi
      by_cases hlt : i < zs.length
      · rw [List.getElem?_append_left hlt, Nat.mod_eq_of_lt hlt]
      · rw [List.getElem?_append_right (by omega), ih (i - zs.length) (by omega)]
        congr 1
        rw [← Nat.mod_eq_sub_mod (by omega)]
  have hvl := h.len
  have hget2 : ∀ i, i < n * vs.length → (madeCells vs.toArray (n * vs.length)).toList[i]? = vs[i % vs.length]? := by
    intro i hi
    have hz : 0 < vs.length := by
      rcases Nat.eq_zero_or_pos vs.length with hz | hz
      · rw [hz, Nat.mul_zero] at hi; omega
      · exact hz
    have hm : i % vs.length < vs.length := Nat.mod_lt _ hz
    simp only [madeCells, Array.toList_map, List.getElem?_map]
    have : (Array.range (n * vs.length)).toList[i]? = some i := by simp [hi]
    rw [this]
    simp [hm]
  refine ⟨by simp [hlen, hvl, madeCells], fun v hv => ?_, fun i c v hc hv => ?_⟩
  · obtain ⟨i, hi⟩ := List.getElem?_of_mem hv
    have hil : i < n * vs.length := by have := (List.getElem?_eq_some_iff.1 hi).1; simpa [madeCells] using this
    rw [hget2 i hil] at hi
    exact h.one v (List.mem_of_getElem? hi)
  · have hil : i < n * zs.length := by rw [← hlen]; exact (List.getElem?_eq_some_iff.1 hc).1
    rw [hget i hil] at hc
    rw [hget2 i (by rw [hvl]; exact hil), hvl] at hv
    exact h.rep _ c v hc hv
end

/-- A row's cells, one behind the other. -/
theorem flat_get {z : Nat} : ∀ {xs : List DV}, (∀ (i : Nat) (e : DV), xs[i]? = some e → (dcells e).length = z) → ∀ {k : Nat} {d : DV}, (xs.flatMap dcells)[k]? = some d →
    ∃ i e j, xs[i]? = some e ∧ (dcells e)[j]? = some d ∧ k = i * z + j
  | [], _, k, d, h => by simp at h
  | x :: xs, hz, k, d, h => by
    have hx := hz 0 x rfl
    rw [List.flatMap_cons] at h
    by_cases hk : k < (dcells x).length
    · rw [List.getElem?_append_left hk] at h
      exact ⟨0, x, k, rfl, h, by simp⟩
    · rw [List.getElem?_append_right (by omega)] at h
      obtain ⟨i, e, j, h1, h2, h3⟩ := flat_get (fun i e he => hz (i + 1) e (by simpa using he)) h
      refine ⟨i + 1, e, j, by simpa using h1, h2, ?_⟩
      rw [Nat.add_mul]; omega
theorem flat_len {z : Nat} : ∀ {xs : List DV}, (∀ (i : Nat) (e : DV), xs[i]? = some e → (dcells e).length = z) → (xs.flatMap dcells).length = xs.length * z
  | [], _ => by simp
  | x :: xs, hz => by
    have hx := hz 0 x rfl
    have ih := flat_len (xs := xs) (fun i e he => hz (i + 1) e (by simpa using he))
    rw [List.flatMap_cons, List.length_append, hx, ih, List.length_cons, Nat.add_mul]
    omega

theorem hset_hset (h : List (Nat × Nat × List AV)) (t g g' : Nat) (cs cs' : List AV) : hset (hset h t g cs) t g' cs' = hset h t g' cs' := by
  induction h with
  | nil => simp [hset]
  | cons x r ih =>
    obtain ⟨s, g0, c0⟩ := x
    unfold hset
    by_cases hs : s = t
    · simp [hs, hset]
    · simp [hs, hset, ih]

/-- One's own array under its next name. -/
theorem Inv.rename {E : Env} {G : Gh} {m : AH} {w : World} (h : Inv E G m w) {t g b o : Nat} {cs : List AV} (hc : m.cells (.own t g) = some cs) (hb : G.bx (.own t g) = some (b, o)) (ho : o ≠ mapMark) :
    ∃ G', Ext G w G' w ∧ Inv E G' (m.newBox t cs) w ∧ G'.bx (.own t (gnext m t)) = some (b, o) := by
  have hg : hget m.h t = some (g, cs) := by
    simp only [AH.cells] at hc
    cases hh : hget m.h t with
    | none => rw [hh] at hc; cases hc
    | some x =>
      obtain ⟨g3, cs3⟩ := x
      rw [hh] at hc
      simp only at hc
      split at hc
      · rename_i e; cases hc; rw [e]
      · cases hc
  have hgn : gnext m t = g + 1 := by simp [gnext, hg]
  obtain ⟨b', o', hb', hwho, hmay, hst, hcell, hmap⟩ := h.box _ cs hc
  rw [hb] at hb'
  cases hb'
  have hbx : G.bx (.own t (g + 1)) = none := h.gen t (g + 1) (.inr ⟨g, cs, hg, Nat.lt_succ_self _⟩)
  let G' : Gh := { G with bx := updL G.bx (.own t (g + 1)) (some (b, o)), who := updN G.who b (some (.inl (.own t (g + 1)))) }
  have hx : Ext G w G' w := by
    refine ⟨fun _ _ x => x, fun _ _ _ => rfl, fun l y hy => ?_, Nat.le_refl _, fun _ _ _ x => x⟩
    show updL G.bx (.own t (g + 1)) (some (b, o)) l = some y
    have hne : l ≠ .own t (g + 1) := fun e => by subst e; rw [hbx] at hy; cases hy
    rw [updL_ne _ _ hne]; exact hy
  rw [hgn]
  refine ⟨G', hx, ?_, by simp [G', updL]⟩
  refine h.but (N := b) hx ⟨rfl, rfl, rfl, Nat.le_refl _, fun _ _ => rfl, fun k hk => updN_ne _ _ hk, fun _ _ _ => Iff.rfl⟩ hmay (fun l2 cs2 hc2 => ?_) (fun t' g' hg' => ?_) (fun i hi => .inl ⟨hi, rfl, by rw [hwho]; simp⟩) h.lt h.nx (who_lt h hwho)
  · by_cases hl2 : l2 = .own t (g + 1)
    · subst hl2
      right
      have : m.newBox t cs = { m with h := hset m.h t (g + 1) cs } := by rw [AH.newBox, hgn]
      rw [this] at hc2
      simp only [AH.cells, hget_set_self, if_true] at hc2
      cases hc2
      exact ⟨b, o, by simp [G', updL], by simp [G', updN], hmay, hst, fun h0 j c hj => by
        obtain ⟨f1, v, f2, f3, f4⟩ := hcell h0 j c hj
        exact ⟨f1, v, f2, f3, f4.ext hx⟩, fun h0 => absurd h0 ho⟩
    · left
      cases l2 with
      | out k =>
        refine ⟨hc2, by rw [hwho]; intro e; cases e⟩
      | own t' g' =>
        have hne : t ≠ t' := fun e => by
          subst e
          simp only [AH.newBox, AH.cells, hget_set_self, hgn] at hc2
          split at hc2
          · rename_i e; exact hl2 (by rw [e])
          · cases hc2
        refine ⟨?_, by rw [hwho]; intro e; cases e; exact hne rfl⟩
        simp only [AH.newBox, AH.cells] at hc2 ⊢
        rwa [hget_set_ne _ _ _ hne] at hc2
  · show updL G.bx (.own t (g + 1)) (some (b, o)) (.own t' g') = none
    by_cases ht : t = t'
    · subst ht
      simp only [AH.newBox, hget_set_self, hgn] at hg'
      rcases hg' with hg' | ⟨g2, cs2, hg', hlt⟩
      · cases hg'
      · cases hg'
        rw [updL_ne _ _ (by intro e; cases e; exact absurd hlt (Nat.lt_irrefl _))]
        exact h.gen t g' (.inr ⟨g, cs, hg, by omega⟩)
    · rw [updL_ne _ _ (by intro e; cases e; exact ht rfl)]
      apply h.gen
      simpa only [AH.newBox, hget_set_ne _ _ _ ht] using hg'

/-- More in a slice of one's own array: the array lies under its next name, whether it is the old one or a new one. -/
def exAppM (P : Program) (m : AH) (d : Option Nat) (t : Nat) (l : Loc) (off len cap : Nat) (x : AV) (K : AH → AV → Prop) : Prop := match d, l with
  | some d, .own t0 g => (match m.cells (.own t0 g), srcA m x, mkA P t with
    | some cs, some (z', xs, n), some (zs, y) => t0 = d ∧ off = 0 ∧ z' = zs.length ∧ xs.length = n ∧ cs.length = cap * zs.length ∧ 0 < y ∧ (len + n) * y ≤ 140737488355328 ∧
        ∀ (c : Nat) (sp : List AV), len + n ≤ c → sp.length = (c - (len + n)) * zs.length → K (m.newBox d (cs.take (len * zs.length) ++ (xs.flatMap dcells).map toAV ++ sp)) (.msl (.own d (gnext m d)) 0 (len + n) c)
    | _, _, _ => False)
  | _, _ => False

theorem exAppM_ok {P : Program} {E : Env} {G : Gh} {m : AH} {w : World} {d : Option Nat} {t ty : Nat} {l : Loc} {off len cap : Nat} {x : AV} {sv xv : Value} {K : AH → AV → Prop} (h : exAppM P m d t l off len cap x K) (hi : Inv E G m w) (hs : RepA G w (.msl l off len cap) sv) (hx : RepA G w x xv) :
    ∃ G' m' w' v u, (Builtin.append_ #[t, t] ty #[sv, xv]).run P w = .ok u w' ∧ Ext G w G' w' ∧ Inv E G' m' w' ∧ RepA G' w' v u ∧ K m' v := by
  unfold exAppM at h
  split at h
  rotate_left
  · exact h.elim
  rename_i d t0 g
  split at h
  rotate_left
  · exact h.elim
  rename_i cs z' xs n zs y hcs hsrc hmk
  obtain ⟨rfl, rfl, rfl, hn, hcl, hy, hsize, hK⟩ := h
  unfold mkA at hmk
  split at hmk
  rotate_left
  · cases hmk
  rename_i e hu
  split at hmk
  rotate_left
  · cases hmk
  rename_i zs' inf hz hinf
  cases hmk
  obtain ⟨i', zv, hinf', hzv, hzs, hrep⟩ := zeroA_of hz
  rw [hinf] at hinf'
  cases hinf'
  have hzl : zs.length = inf.size := by
    have := (hrep G w).len
    rw [Array.length_toList, hzs] at this
    exact this.symm
  obtain ⟨A2, c2, rfl, hxz, hxl⟩ := srcA_ok hi hsrc hn hx
  cases hs with
  | msl _ _ _ _ b o hb h0 hlc hcm =>
  rw [Nat.add_zero]
  have hbox := hi.box _ _ hcs
  obtain ⟨b', o', hb', hwho, hmay, hst, hcell, _⟩ := hbox
  rw [hb] at hb'
  cases hb'
  have hcell := hcell h0
  have h48 : len + xs.length ≤ 140737488355328 := Nat.le_trans (Nat.le_mul_of_pos_right _ hy) (by rw [hn]; exact hsize)
  -- the new elements' cells
  have hnews : ∃ us : List Value, us.length = xs.length * zs.length ∧ (∀ v ∈ us, oneCell v = true) ∧ (Builtin.firstCells zs.length xs.length (.slice A2 xs.length c2)).run P w = .ok us.toArray w ∧
      (∀ (j : Nat) (v : Value), us[j]? = some v → ∃ b2 o2, A2 = some ⟨b2, o2, none⟩ ∧ w.cell? ⟨b2, o2 + j, none⟩ = some v) ∧
      ∀ (i : Nat) (e : DV), xs[i]? = some e → ∀ (j : Nat) (d : DV), (dcells e)[j]? = some d → ∃ v, us[i * zs.length + j]? = some v ∧ RepD G.st w d v := by
    rcases hxl with hxs | ⟨b2, o2, hA2, hfl⟩
    · subst hxs
      exact ⟨[], by simp, by simp, by cases A2 <;> simp [Builtin.firstCells, loadCells, loadCellsFrom], by simp, by simp⟩
    · subst hA2
      obtain ⟨news, hnl, hnc, hnr⟩ := hfl
      refine ⟨news, hnl, fun v hv => ?_, run_firstCells_some w _ _ _ _ _ news hnl (fun j v hj => by rw [add_at]; exact (hnc j v hj).1), fun j v hj => ⟨b2, o2, rfl, (hnc j v hj).1⟩, hnr⟩
      obtain ⟨j, hj⟩ := List.getElem?_of_mem hv
      exact (hnc j v hj).2
  obtain ⟨us, hul, hu1, hurun, hucell, hurep⟩ := hnews
  have hfl := flat_len hxz
  have hnewrep : ∀ (G2 : Gh) (w2 : World), Ext G w G2 w2 → ∀ (i : Nat) (c : AV) (v : Value), ((xs.flatMap dcells).map toAV)[i]? = some c → us[i]? = some v → RepA G2 w2 c v := by
    intro G2 w2 hx2 i c v hc hv
    rw [List.getElem?_map] at hc
    cases hd : (xs.flatMap dcells)[i]? with
    | none => rw [hd] at hc; cases hc
    | some dd =>
      rw [hd] at hc
      cases hc
      obtain ⟨i1, e1, j1, q1, q2, q3⟩ := flat_get hxz hd
      obtain ⟨v1, q4, q5⟩ := hurep i1 e1 q1 j1 dd q2
      rw [← q3, hv] at q4
      cases q4
      exact (RepD.toA q5).ext hx2
  by_cases hroom : len + xs.length ≤ cap
  · -- there is room
    have hz2 : (len + xs.length) * zs.length ≤ cap * zs.length := Nat.mul_le_mul_right _ hroom
    rw [Nat.add_mul] at hz2
    obtain ⟨srun, g1, g2⟩ := hi.store (P := P) (off := len * zs.length) (new := (xs.flatMap dcells).map toAV) hcs hb h0 (by rw [List.length_map, hfl, hcl]; omega) us (by rw [List.length_map, hfl]; exact hul) hu1 (hnewrep G w (Ext.refl _ _))
    have hb2 := g1.bx _ _ hb
    have hcs2 : (m.setCells (.own t0 g) (spl cs (len * zs.length) ((xs.flatMap dcells).map toAV))).cells (.own t0 g) = some (spl cs (len * zs.length) ((xs.flatMap dcells).map toAV)) := by
      simp only [AH.setCells, AH.cells, hget_set_self, if_true]
    obtain ⟨G', k1, k2, k3⟩ := g2.rename hcs2 hb2 h0
    have hnb : (m.setCells (.own t0 g) (spl cs (len * zs.length) ((xs.flatMap dcells).map toAV))).newBox t0 (spl cs (len * zs.length) ((xs.flatMap dcells).map toAV)) = m.newBox t0 (spl cs (len * zs.length) ((xs.flatMap dcells).map toAV)) ∧
        gnext (m.setCells (.own t0 g) (spl cs (len * zs.length) ((xs.flatMap dcells).map toAV))) t0 = gnext m t0 := by
      have hg : ∃ c3, hget m.h t0 = some (g, c3) := by
        simp only [AH.cells] at hcs
        cases hh : hget m.h t0 with
        | none => rw [hh] at hcs; cases hcs
        | some x =>
          obtain ⟨g3, c3⟩ := x
          rw [hh] at hcs
          simp only at hcs
          split at hcs
          · rename_i e; exact ⟨c3, by rw [e]⟩
          · cases hcs
      obtain ⟨c3, hg⟩ := hg
      have : gnext (m.setCells (.own t0 g) (spl cs (len * zs.length) ((xs.flatMap dcells).map toAV))) t0 = gnext m t0 := by simp [gnext, AH.setCells, hget_set_self, hg]
      refine ⟨?_, this⟩
      unfold AH.newBox
      rw [this]
      simp only [AH.setCells, hset_hset]
    rw [hnb.1] at k2
    rw [hnb.2] at k3
    refine ⟨G', _, _, .msl (.own t0 (gnext m t0)) 0 (len + n) cap, .slice (some ⟨b, o, none⟩) (len + xs.length) cap, ?_, g1.trans k1, k2, ?_, ?_⟩
    · have hurun' := hurun
      rw [hzl] at hurun' srun
      simp [Builtin.append_, run_underlying hu, sizeOf, typeInfo, hinf, Builtin.lenOf, hroom, hurun', add_at, srun, hzl]
    · have := RepA.msl (G := G') (w := w.setCells b (o + len * zs.length) us) (.own t0 (gnext m t0)) 0 (len + n) cap b o k3 h0 (by rw [← hn]; exact hroom) hcm
      rw [Nat.add_zero, ← hn] at this
      rw [← hn]
      exact this
    · have := hK cap (cs.drop (len * zs.length + ((xs.flatMap dcells).map toAV).length)) (by rw [← hn]; exact hroom) (by
        rw [List.length_drop, List.length_map, hfl, hcl, ← hn, Nat.sub_mul, Nat.add_mul])
      exact this
  · -- a new array
    have hx0 : 0 < xs.length := by omega
    obtain ⟨b2, o2, hA2⟩ : ∃ b2 o2, A2 = some ⟨b2, o2, none⟩ := by
      rcases hxl with hxs | ⟨b2, o2, hA2, _⟩
      · rw [hxs] at hx0; simp at hx0
      · exact ⟨b2, o2, hA2⟩
    subst hA2
    have hlz : len * zs.length ≤ cs.length := by rw [hcl]; exact Nat.mul_le_mul_right _ hlc
    obtain ⟨olds, hol, hoc⟩ := cells_list (w := w) (b := b) (o := o) (p := fun k v => oneCell v = true ∧ ∀ c, cs[k]? = some c → RepA G w c v) (len * zs.length) 0 (fun k hk => by
      rw [Nat.zero_add]
      obtain ⟨_, v, v1, v2, v3⟩ := hcell k _ (List.getElem?_eq_getElem (by omega))
      exact ⟨v, v1, v2, fun c hc => by rw [List.getElem?_eq_getElem (by omega)] at hc; cases hc; exact v3⟩)
    have hfits : Builtin.nextslicecap (len + xs.length) cap * inf.bytes ≤ 281474976710656 := growslice_fits (by omega) (by rw [hn]; exact hsize)
    have run := run_append_grow (P := P) w t ty e inf zv hu hinf hzv ⟨b, o, none⟩ len cap olds (by rw [← hzl]; exact hol) (fun j v hj => by rw [add_at]; have := (hoc j v hj).1; rwa [Nat.zero_add] at this) ⟨b2, o2, none⟩ xs.length c2 us (by rw [← hzl]; exact hul)
      (fun j v hj => by
        rw [add_at]
        obtain ⟨b3, o3, q1, q2⟩ := hucell j v hj
        cases q1; exact q2) (by omega) (by omega) hfits
    have hg := grownCap_ge w (len + xs.length) cap e
    have hgm := grownCap_le_maxLen w (len + xs.length) cap e (by simp [maxLen]; omega)
    generalize hGC : grownCap w (len + xs.length) cap e = gc at run hg hgm
    have hzr := madeA_rep (hrep G w.drew) (gc - (len + xs.length))
    have hzz : (Builtin.zeroCells zv.cells (gc - (len + xs.length))).toList = (madeCells zv.cells.toList.toArray ((gc - (len + xs.length)) * zv.cells.toList.length)).toList := by
      simp [Builtin.zeroCells, madeCells]
    have hzr2 : RepL G w.drew (madeA zs (gc - (len + xs.length))) (Builtin.zeroCells zv.cells (gc - (len + xs.length))).toList := by rw [hzz]; exact hzr
    obtain ⟨G', g1, g2, g3⟩ := (hi.drew).newBox t0 e (cs.take (len * zs.length) ++ (xs.flatMap dcells).map toAV ++ madeA zs (gc - (len + xs.length))) (olds ++ us ++ (Builtin.zeroCells zv.cells (gc - (len + xs.length))).toList)
      (by rw [List.length_append, List.length_append, List.length_append, List.length_append, hol, hul, hzr2.len, List.length_take, List.length_map, hfl]; omega)
      (fun v hv => by
        rcases List.mem_append.1 hv with hv | hv
        · rcases List.mem_append.1 hv with hv | hv
          · obtain ⟨j, hj⟩ := List.getElem?_of_mem hv
            exact (hoc j v hj).2.1 |> fun q => by simpa using q
          · exact hu1 v hv
        · exact hzr2.one v hv)
      (fun i c v hc hv => by
        by_cases h1 : i < len * zs.length
        · rw [List.append_assoc, List.getElem?_append_left (by rw [List.length_take]; omega), List.getElem?_take, if_pos h1] at hc
          rw [List.append_assoc, List.getElem?_append_left (by omega)] at hv
          have := (hoc i v hv).2.2
          rw [Nat.zero_add] at this
          exact (this c hc).ext (Ext.drew G w)
        · by_cases h2 : i < len * zs.length + xs.length * zs.length
          · rw [List.append_assoc, List.getElem?_append_right (by rw [List.length_take]; omega), List.length_take, Nat.min_eq_left hlz, List.getElem?_append_left (by rw [List.length_map, hfl]; omega)] at hc
            rw [List.append_assoc, List.getElem?_append_right (by omega), hol, List.getElem?_append_left (by omega)] at hv
            exact hnewrep G w.drew (Ext.drew G w) _ c v hc hv
          · rw [List.getElem?_append_right (by rw [List.length_append, List.length_take, List.length_map, hfl]; omega), List.length_append, List.length_take, List.length_map, hfl, Nat.min_eq_left hlz] at hc
            rw [List.getElem?_append_right (by rw [List.length_append]; omega), List.length_append, hol, hul] at hv
            exact hzr2.rep _ c v hc hv)
    have e1 : (olds ++ us ++ (Builtin.zeroCells zv.cells (gc - (len + xs.length))).toList).toArray = olds.toArray ++ us.toArray ++ Builtin.zeroCells zv.cells (gc - (len + xs.length)) := by apply Array.ext'; simp
    rw [e1] at g1 g2
    refine ⟨G', _, _, .msl (.own t0 (gnext m t0)) 0 (len + n) gc, _, run, (Ext.drew G w).trans g1, g2, ?_, ?_⟩
    · have := RepA.msl (G := G') (w := w.drew.alloc (.cells (olds.toArray ++ us.toArray ++ Builtin.zeroCells zv.cells (gc - (len + xs.length))) e)) (.own t0 (gnext m t0)) 0 (len + n) gc w.heap.size 0 g3 (by simp [mapMark]) (by rw [← hn]; exact hg) hgm
      rw [← hn] at this
      rw [← hn]
      exact this
    · refine hK gc _ (by rw [← hn]; exact hg) ?_
      simp [madeA, ← hn]

/-- An append. -/
def exAppX (P : Program) (m : AH) (d : Option Nat) (t t' : Nat) (s x : AV) (K : AH → AV → Prop) : Prop := match s with
  | .msl l off len cap => t' = t ∧ exAppM P m d t l off len cap x K
  | s => exAppend P m t t' s x K

theorem exAppX_ok {P : Program} {E : Env} {G : Gh} {m : AH} {w : World} {d : Option Nat} {t t' ty : Nat} {s x : AV} {sv xv : Value} {K : AH → AV → Prop} (h : exAppX P m d t t' s x K) (hi : Inv E G m w) (hs : RepA G w s sv) (hx : RepA G w x xv) :
    ∃ G' m' w' v u, (Builtin.append_ #[t, t'] ty #[sv, xv]).run P w = .ok u w' ∧ Ext G w G' w' ∧ Inv E G' m' w' ∧ RepA G' w' v u ∧ K m' v := by
  unfold exAppX at h
  split at h
  · obtain ⟨rfl, h⟩ := h
    exact exAppM_ok h hi hs hx
  · exact exAppend_ok h hi hs hx

theorem exAppX_sl {P : Program} {m : AH} {d : Option Nat} {t t' z : Nat} {es : List DV} {k : Tok} {x : AV} {K : AH → AV → Prop} : exAppX P m d t t' (.sl z es k) x K = exAppend P m t t' (.sl z es k) x K := (rfl)
theorem exAppX_msl {P : Program} {m : AH} {d : Option Nat} {t t' : Nat} {l : Loc} {off len cap : Nat} {x : AV} {K : AH → AV → Prop} : exAppX P m d t t' (.msl l off len cap) x K = (t' = t ∧ exAppM P m d t l off len cap x K) := (rfl)
@[congr] theorem exAppX_congr {P : Program} {m m' : AH} {d : Option Nat} {t t' : Nat} {s s' x x' : AV} {K : AH → AV → Prop} (h : m = m') (h2 : s = s') (h3 : x = x') : exAppX P m d t t' s x K = exAppX P m' d t t' s' x' K := by rw [h, h2, h3]
@[congr] theorem exAppM_congr {P : Program} {m m' : AH} {d : Option Nat} {t : Nat} {l : Loc} {off len cap len' cap' : Nat} {x x' : AV} {K : AH → AV → Prop} (h : m = m') (h1 : len = len') (h2 : cap = cap') (h3 : x = x') : exAppM P m d t l off len cap x K = exAppM P m' d t l off len' cap' x' K := by rw [h, h1, h2, h3]
theorem exAppX_mono {P : Program} {m : AH} {d : Option Nat} {t t' : Nat} {s x : AV} {K K' : AH → AV → Prop} (h : exAppX P m d t t' s x K) (hK : ∀ m v, K m v → K' m v) : exAppX P m d t t' s x K' := by
  unfold exAppX at h ⊢
  split at h
  · obtain ⟨h1, h⟩ := h
    refine ⟨h1, ?_⟩
    unfold exAppM at h ⊢
    split at h
    · split at h
      · obtain ⟨g1, g2, g3, g4, g5, g6, g7, g8⟩ := h
        exact ⟨g1, g2, g3, g4, g5, g6, g7, fun c sp q1 q2 => hK _ _ (g8 c sp q1 q2)⟩
      · exact h.elim
    · exact h.elim
  · rename_i s' hs'
    unfold exAppend at h ⊢
    split at h
    · split at h
      · obtain ⟨h1, h2, h3, h4, h5⟩ := h
        refine ⟨h1, h2, h3, h4, ?_⟩
        split at h5
        · exact ⟨h5.1, h5.2.1, hK _ _ h5.2.2⟩
        · exact h5.elim
      · exact h.elim
    · exact h.elim

end Go.AB

/- Each operation of a region, held against the real one; regions, branches, loops; a function's body. -/
namespace Go.AB

def bodyOk (P : Program) (f : Nat) : Bool := match P.funcs[f]? with
  | some fn => fn.name != "runtime.NumGoroutine" && fn.body.isSome
  | none => false

def evs (P : Program) (σ : AS) (tys : Array Nat) (xs : Array Operand) : List AV := xs.toList.zipIdx.map fun p => σ.ev P (tys.getD p.2 0) p.1

def kPut (σ : AS) (dst : Option Nat) (K : AS → Prop) (v : AV) : Prop := K (σ.put dst v)
def kMem (σ : AS) (dst : Option Nat) (K : AS → Prop) (m : AH) (v : AV) : Prop := K (AS.put ⟨σ.s, m⟩ dst v)
def kMem1 (σ : AS) (dst : Option Nat) (K : AS → Prop) (m : AH) : Prop := K (AS.put ⟨σ.s, m⟩ dst undefA)

def callK (σ : AS) (dst : Option Nat) (R : AH → AV → Prop) (K : AS → Prop) : Prop :=
  ∀ m' r, R m' r → ∀ nx2 lv2, σ.m.nx ≤ nx2 → (∀ j, σ.m.lv j → lv2 j) → (∀ j, m'.lv j → lv2 (σ.m.nx + j)) → K (AS.put ⟨σ.s, ⟨σ.m.h, σ.m.o, nx2, lv2⟩⟩ dst (shV σ.m.nx r))

def quietK (P : Program) (k : Nat) (as : List AV) (σ : AS) (dst : Option Nat) (K : AS → Prop) : Prop := ∃ r, PCall P k as (RV r) ∧ plain r = true ∧ kPut σ dst K r
def exBuiltin (P : Program) (b : Builtin) (ts : Array Nat) (as : List AV) (σ : AS) (dst : Option Nat) (K : AS → Prop) : Prop := match b, ts.toList, as with
  | .len, [t], [a] => exLen P t a (kPut σ dst K)
  | .append, [t, t'], [s, x] => exAppX P σ.m dst t t' s x (kMem σ dst K)
  | .min, _, as => exMM false as (kPut σ dst K)
  | .max, _, as => exMM true as (kPut σ dst K)
  | _, _, _ => False

/-- A call of a function that is handed nothing of one's own. -/
def callX (P : Program) (k : Nat) (as args : List AV) (σ : AS) (dst : Option Nat) (K : AS → Prop) : Prop := (∃ R, PCall P k as R ∧ callK σ dst R K) ∨ inlK P k args σ dst K ∨ effK P k args σ dst K
/-- A call of a function that is handed one's own. -/
def effX (P : Program) (k : Nat) (args : List AV) (σ : AS) (dst : Option Nat) (K : AS → Prop) : Prop := effK P k args σ dst K ∨ inlK P k args σ dst K

def exCall (P : Program) (c : Call) (σ : AS) (dst : Option Nat) (K : AS → Prop) : Prop := match c.callee with
  | .builtin b => exBuiltin P b c.argTypes (evs P σ c.argTypes c.args) σ dst K
  | .value f => match fnOf (σ.ev P 0 f) with
    | some (k, caps) => bodyOk P k = true ∧ (match (evs P σ c.argTypes c.args ++ caps).any need with
      | false => ∃ as, stripL (evs P σ c.argTypes c.args ++ caps) = some as ∧ callX P k as (evs P σ c.argTypes c.args ++ caps) σ dst K
      | true => (∃ as, lendL σ.m (evs P σ c.argTypes c.args ++ caps) = some as ∧ quietK P k as σ dst K) ∨ effX P k (evs P σ c.argTypes c.args ++ caps) σ dst K)
    | none => False
  | _ => False

def exConvB (P : Program) (s d : Nat) (a : AV) (K : AV → Prop) : Prop := match bytesA P d with
  | true => exBytes P s a K
  | false => exConv P s d a K
def evP (P : Program) (σ : AS) (t : Nat) (ps : Array (Nat × Operand)) : List (Nat × AV) := ps.toList.map fun p => (p.1, σ.ev P (partTy P t p.1) p.2)

def exOp (P : Program) (o : Oper) (σ : AS) (K : AS → Prop) : Prop := match o.op with
  | .move x => K (σ.put o.dst (σ.ev P o.type x))
  | .assign x => K (σ.put o.dst (σ.ev P o.type x))
  | .pick c a b => exPick (σ.ev P 0 c) (σ.ev P o.type a) (σ.ev P o.type b) (kPut σ o.dst K)
  | .alloc t => match o.dst, bldT P t with
    | some d, some e => K (AS.put ⟨σ.s, σ.m.newBox d [.bld t e []]⟩ (some d) (.bref (.own d (gnext σ.m d))))
    | some d, none => match zeroA P t with
      | some zs => K (AS.put ⟨σ.s, σ.m.newBox d zs⟩ (some d) (.ptr (.own d (gnext σ.m d)) 0))
      | none => False
    | none, _ => False
  | .box t x => match o.dst with
    | some d => isCell (σ.ev P t x) = true ∧ K (AS.put ⟨σ.s, σ.m.newBox d (acells (σ.ev P t x))⟩ (some d) (.ptr (.own d (gnext σ.m d)) 0))
    | none => False
  | .build t ps => fsOk P t = true ∧ exBuild P t (evP P σ t ps) (kPut σ o.dst K)
  | .buildSlice t len ps => exLit P σ.m t len (evP P σ t ps) (kMem σ o.dst K)
  | .load t a => exLoad P σ.m t (σ.ev P 0 a) (kPut σ o.dst K)
  | .store t a x => exStore P σ.m t (σ.ev P 0 a) (σ.ev P t x) (kMem1 σ o.dst K)
  | .nilCheck x => nilOk (σ.ev P 0 x) = true ∧ K (σ.put o.dst (σ.ev P 0 x))
  | .binOp op t x y _ => exBinO P op t y (σ.ev P t x) (σ.ev P t y) (kPut σ o.dst K)
  | .unOp op t x => exUn op (σ.ev P t x) (kPut σ o.dst K)
  | .convert s d x => exConvB P s d (σ.ev P s x) (kPut σ o.dst K)
  | .makeInterface t x => concA P t = true ∧ K (σ.put o.dst (.iface t (σ.ev P t x)))
  | .makeFunc (.func f) first caps => first.toList.length = 0 ∧ K (σ.put o.dst (.fn f (caps.toList.map (σ.ev P 0))))
  | .makeSlice t l c => exMake P σ.m o.dst t (σ.ev P 0 l) (σ.ev P 0 c) (kMem σ o.dst K)
  | .slice t x lo hi none => exCut P t (σ.ev P t x) (lo.map (σ.ev P 0)) (hi.map (σ.ev P 0)) (kPut σ o.dst K)
  | .fieldAddr s x f => exField P s (σ.ev P 0 x) f (kPut σ o.dst K)
  | .field s x f => exFieldV P s (σ.ev P s x) f (kPut σ o.dst K)
  | .indexAddr t x i => exIndexAddr P t (σ.ev P t x) (σ.ev P 0 i) (kPut σ o.dst K)
  | .index t x i => exIndexV P t (σ.ev P t x) (σ.ev P 0 i) (kPut σ o.dst K)
  | .extract x i => exExtract (σ.ev P 0 x) i (kPut σ o.dst K)
  | .makeMap _ none => match o.dst with
    | some d => K (AS.put ⟨σ.s, σ.m.newBox d [.mapc [] []]⟩ (some d) (.mref (.own d (gnext σ.m d))))
    | none => False
  | .lookup t x k ok => exLookup P σ.m t (σ.ev P t x) (σ.ev P 0 k) ok (kPut σ o.dst K)
  | .mapUpdate t x k v => exUpdate P σ.m t (σ.ev P t x) (σ.ev P 0 k) (σ.ev P 0 v) (kMem1 σ o.dst K)
  | .insert t x k v => exUpdate P σ.m t (σ.ev P t x) (σ.ev P 0 k) (σ.ev P 0 v) (kMem1 σ o.dst K)
  | .typeAssert x _ want ok => exAssert P want ok (σ.ev P 0 x) (kPut σ o.dst K)
  | .call c => exCall P c σ o.dst K
  | _ => False

def NoQ : Exit → Act → World → Prop := fun _ _ _ => False

/-- What one real operation comes to. -/
def Does (P : Program) (E : Env) (o : Oper) (a : Act) (w : World) (K : AS → Prop) : Prop := ∀ Q, o.wp P a w (fun a' w' => ∃ σ', St E σ' a' w' ∧ K σ') Q

theorem exAssert_ok {P : Program} {G : Gh} {w : World} {want xt : Nat} {ok : Bool} {x : AV} {xv : Value} {K : AV → Prop} (h : exAssert P want ok x K) (hx : RepA G w x xv) :
    ∃ v u, (Instr.typeAssert xv xt want ok).run P w = .ok u w ∧ RepA G w v u ∧ K v := by
  obtain ⟨hc, h⟩ := h
  obtain ⟨T, hT, hni⟩ : ∃ T, P.underlying want = some T ∧ ∀ ms, T ≠ .interface ms := by
    unfold concA at hc
    cases hu : P.underlying want with
    | none => rw [hu] at hc; cases hc
    | some T =>
      refine ⟨T, rfl, fun ms e => ?_⟩
      rw [hu, e] at hc
      exact absurd hc (by simp)
  have key : ∀ (t : Nat) (v : AV) (u : Value), RepA G w v u → asK P want ok t v K → ∃ v' u', (Instr.typeAssert (.iface t u) xt want ok).run P w = .ok u' w ∧ RepA G w v' u' ∧ K v' := by
    intro t v u hv h
    unfold asK at h
    have hrun : (Instr.typeAssert (.iface t u) xt want ok).run P w = (if t = want then (pure (if ok then .tuple #[u, .bool true] else u) : Sem Value) else if ok then (do pure (.tuple #[← zeroValue want, .bool false])) else runtimePanic (.typeAssertion (some xt) (some t) want "")).run P w := by
      unfold Instr.typeAssert
      simp only [Sem.run_bind, run_underlying hT, Result.andThen_ok]
    rw [hrun]
    by_cases ht : t = want
    · rw [if_pos ht] at h ⊢
      cases ok with
      | true =>
        refine ⟨_, _, rfl, .tup _ [u, .bool true] rfl (fun i c y hc hy => ?_), h⟩
        match i with
        | 0 => cases hc; cases hy; exact hv
        | 1 => cases hc; cases hy; exact .bool _
        | i + 2 => cases hc
      | false => exact ⟨_, _, rfl, hv, h⟩
    · rw [if_neg ht] at h ⊢
      cases ok with
      | false => exact h.elim
      | true =>
        simp only [if_true] at h ⊢
        obtain ⟨hz, h⟩ := h
        obtain ⟨zs, hz⟩ := Option.isSome_iff_exists.1 hz
        obtain ⟨i, zv, h1, h2, h3, h4⟩ := zeroA_of hz
        refine ⟨_, .tuple #[zv, .bool false], ?_, .tup _ [zv, .bool false] rfl (fun i c y hc hy => ?_), h zv⟩
        · simp [zeroValue, typeInfo, h1, h2]
        · match i with
          | 0 => cases hc; cases hy; exact .raw _
          | 1 => cases hc; cases hy; exact .bool _
          | i + 2 => cases hc
  cases hx with
  | iface t v u hv => exact key t v u hv h
  | raw =>
    cases xv with
    | iface t u => exact key t _ u (rawA_rep u) h
    | _ => exact h.elim
  | _ => exact h.elim

section
variable {P : Program} {E : Env} {o : Oper} {σ : AS} {a : Act} {w : World} {K : AS → Prop} {G : Gh}

theorem does_mem (hs : a.tmps.size = σ.s.length) (hd : a.defers = E.ds) (hr : ∀ t, RepA G w (nth σ.s t) (a.tmps.getD t undef))
    (h : ∃ G' m' w' v u, ((execOp a.eval o).run P w = .ok (.value u) w' ∨ ((execOp a.eval o).run P w = .ok .skip w' ∧ u = undef)) ∧ Ext G w G' w' ∧ Inv E G' m' w' ∧ RepA G' w' v u ∧ K (AS.put ⟨σ.s, m'⟩ o.dst v)) : Does P E o a w K := by
  intro Q
  obtain ⟨G', m', w', v, u, h1, h2, h3, h4, h5⟩ := h
  unfold Oper.wp
  rcases h1 with h1 | ⟨h1, rfl⟩
  · rw [h1]; exact ⟨_, St.step hs hd hr h2 h3 h4, h5⟩
  · rw [h1]; exact ⟨_, St.step hs hd hr h2 h3 h4, h5⟩

theorem does_val (hi : Inv E G σ.m w) (hs : a.tmps.size = σ.s.length) (hd : a.defers = E.ds) (hr : ∀ t, RepA G w (nth σ.s t) (a.tmps.getD t undef))
    (h : ∃ v u, (execOp a.eval o).run P w = .ok (.value u) w ∧ RepA G w v u ∧ K (σ.put o.dst v)) : Does P E o a w K := by
  obtain ⟨v, u, h1, h2, h3⟩ := h
  exact does_mem hs hd hr ⟨G, σ.m, w, v, u, .inl h1, Ext.refl G w, hi, h2, h3⟩

theorem evs_rep (hr : ∀ t, RepA G w (nth σ.s t) (a.tmps.getD t undef)) (tys : Array Nat) (xs : Array Operand) : RepArgs G w (evs P σ tys xs) (xs.toList.map a.eval) := by
  refine ⟨by simp [evs], fun i c v hc hv => ?_⟩
  simp only [evs, List.getElem?_map, List.getElem?_zipIdx] at hc
  rw [List.getElem?_map] at hv
  cases hx : xs.toList[i]? with
  | none => rw [hx] at hv; cases hv
  | some x =>
    rw [hx] at hc hv
    cases hc; cases hv
    exact ev_rep hr _ x

theorem evP_rep (hr : ∀ t, RepA G w (nth σ.s t) (a.tmps.getD t undef)) (t : Nat) (ps : Array (Nat × Operand)) :
    (ps.map fun (i, x) => (i, a.eval x)).toList.length = (evP P σ t ps).length ∧ ∀ (i : Nat) (p : Nat × AV) (q : Nat × Value), (evP P σ t ps)[i]? = some p → (ps.map fun (i, x) => (i, a.eval x)).toList[i]? = some q → p.1 = q.1 ∧ RepA G w p.2 q.2 := by
  refine ⟨by simp [evP], fun i p q hp hq => ?_⟩
  simp only [evP, List.getElem?_map] at hp
  rw [Array.toList_map, List.getElem?_map] at hq
  cases hx : ps.toList[i]? with
  | none => rw [hx] at hq; cases hq
  | some x =>
    rw [hx] at hp hq
    cases hp; cases hq
    exact ⟨rfl, ev_rep hr _ x.2⟩

theorem opt_rep (hr : ∀ t, RepA G w (nth σ.s t) (a.tmps.getD t undef)) (x : Option Operand) :
    (x.map (σ.ev P 0) = none ∧ x.map a.eval = none) ∨ ∃ c v, x.map (σ.ev P 0) = some c ∧ x.map a.eval = some v ∧ RepA G w c v := by
  cases x with
  | none => exact .inl ⟨rfl, rfl⟩
  | some x => exact .inr ⟨_, _, rfl, rfl, ev_rep hr _ x⟩

theorem exStore_ok {m : AH} {t : Nat} {p x : AV} {pv xv : Value} {K : AH → Prop} (h : exStore P m t p x K) (hi : Inv E G m w) (hp : RepA G w p pv) (hx : RepA G w x xv) :
    ∃ m' w', (Instr.storeAt t pv xv).run P w = .ok () w' ∧ Ext G w G w' ∧ Inv E G m' w' ∧ K m' := by
  unfold exStore at h
  split at h
  · rename_i l off
    split at h
    · rename_i cs ag n hcs hty
      obtain ⟨h1, h2, h3, hK⟩ := h
      cases hp with
      | ptr _ _ b o' hb h0 =>
        have hc := hx.cells h1
        obtain ⟨run, g1, g2⟩ := hi.store (P := P) hcs hb h0 (by rw [h2]; exact h3) xv.cells.toList hc.len hc.one hc.rep
        refine ⟨_, _, ?_, g1, g2, hK⟩
        have hsz : xv.cells.size = n := by rw [← h2, ← hc.len]; simp
        simp [Instr.storeAt, Instr.sureAddr, storeVar, tyA_size hty, hsz, run]
    · exact h.elim
  · exact h.elim

theorem exPick_ok {c x y : AV} {cv xv yv : Value} {K : AV → Prop} (h : exPick c x y K) (hc : RepA G w c cv) (hx : RepA G w x xv) (hy : RepA G w y yv) :
    ∃ v u, (do pure (.value (if ← asBool cv then xv else yv)) : Sem Next).run P w = .ok (.value u) w ∧ RepA G w v u ∧ K v := by
  unfold exPick at h
  split at h
  · rename_i t
    cases hc
    split at h
    · rename_i p q
      cases hx; cases hy
      exact ⟨_, .bool (if t then p else q), by cases t <;> simp [asBool], .bool _, h⟩
    · cases t with
      | true => exact ⟨_, _, by simp [asBool], hx, h.1 rfl⟩
      | false => exact ⟨_, _, by simp [asBool], hy, h.2 rfl⟩
  · exact h.elim

theorem exMake_ok {m : AH} {d : Option Nat} {t : Nat} {l c : AV} {lv cv : Value} {K : AH → AV → Prop} (h : exMake P m d t l c K) (hi : Inv E G m w) (hl : RepA G w l lv) (hc : RepA G w c cv) :
    ∃ G' m' w' v u, (Instr.makeSlice t lv cv).run P w = .ok u w' ∧ Ext G w G' w' ∧ Inv E G' m' w' ∧ RepA G' w' v u ∧ K m' v := by
  unfold exMake at h
  split at h
  · rename_i d kl n kc c
    split at h
    · rename_i zs y hmk
      unfold mkA at hmk
      split at hmk
      · rename_i e hu
        split at hmk
        rotate_left
        · cases hmk
        rename_i zs' i hz hinf
        cases hmk
        obtain ⟨h0, rfl, hb, h63, hK⟩ := h
        obtain ⟨i', zv, hinf', hzv, hzs, hrep⟩ := zeroA_of hz
        rw [hinf] at hinf'
        cases hinf'
        cases hl; cases hc
        have run := run_make (P := P) w t e i zv hu hinf hzv kl kc n n h0 (Int.le_refl _) hb h63
        have hzl : zv.cells.toList.length = i.size := by simp [hzs]
        have hm := madeA_rep (hrep G w) n.toNat
        rw [hzl] at hm
        obtain ⟨G', g1, g2, g3⟩ := hi.newBox d e (madeA zs n.toNat) (madeCells zv.cells (n.toNat * i.size)).toList (by have := hm.len; simpa using this) (by have := hm.one; simpa using this) (by have := hm.rep; simpa using this)
        have e1 : (madeCells zv.cells (n.toNat * i.size)).toList.toArray = madeCells zv.cells (n.toNat * i.size) := by simp
        rw [e1] at g1 g2
        exact ⟨G', _, _, _, _, run, g1, g2, .msl _ 0 _ _ _ _ g3 (by simp [mapMark]) (Nat.le_refl _) (by simp [maxLen]; omega), hK⟩
      · cases hmk
    · exact h.elim
  · exact h.elim

theorem exOp_ok (hT : TabsOk P E) (h : exOp P o σ K) (hst : St E σ a w) : Does P E o a w K := by
  obtain ⟨G, hi, hs, hd, hr⟩ := hst
  obtain ⟨dst, op, ty, pos, after, guard⟩ := o
  have ev := fun (t : Nat) (x : Operand) => ev_rep (P := P) (σ := σ) (a := a) hr t x
  cases op with
  | move x => exact does_val hi hs hd hr ⟨_, _, by simp [execOp], ev ty x, h⟩
  | assign x => exact does_val hi hs hd hr ⟨_, _, by simp [execOp], ev ty x, h⟩
  | pick c x y =>
    simp only [exOp] at h
    obtain ⟨v, u, h1, h2, h3⟩ := exPick_ok (P := P) h (ev 0 c) (ev ty x) (ev ty y)
    exact does_val hi hs hd hr ⟨v, u, h1, h2, h3⟩
  | alloc t =>
    simp only [exOp] at h
    split at h
    · rename_i d e hb
      obtain ⟨i, zv, hinf, hzv, hzs⟩ := bldT_of hb
      obtain ⟨G', g1, g2, g3⟩ := hi.newBld d t e
      refine does_mem hs hd hr ⟨G', _, _, _, _, .inl ?_, g1, g2, .bref _ _ g3, h⟩
      simp [execOp, Instr.alloc, zeroValue, typeInfo, hinf, hzv, newVar, newRow, hzs]
    · rename_i d hb
      split at h
      · rename_i zs hz
        obtain ⟨i, zv, hinf, hzv, hzs, hrep⟩ := zeroA_of hz
        have hR := hrep G w
        obtain ⟨G', g1, g2, g3⟩ := hi.newBox d t zs zv.cells.toList hR.len hR.one hR.rep
        refine does_mem hs hd hr ⟨G', _, _, _, _, .inl ?_, g1, g2, .ptr _ 0 _ _ g3 (by simp [mapMark]), h⟩
        simp [execOp, Instr.alloc, zeroValue, typeInfo, hinf, hzv, newVar, newRow]
      · exact h.elim
    · exact h.elim
  | box t x =>
    simp only [exOp] at h
    split at h
    · rename_i d
      obtain ⟨hc, hK⟩ := h
      have hR := (ev t x).cells hc
      obtain ⟨G', g1, g2, g3⟩ := hi.newBox d t _ (a.eval x).cells.toList hR.len hR.one hR.rep
      refine does_mem hs hd hr ⟨G', _, _, _, _, .inl ?_, g1, g2, .ptr _ 0 _ _ g3 (by simp [mapMark]), hK⟩
      simp [execOp, Instr.box, newVar, newRow]
    · exact h.elim
  | build t ps =>
    simp only [exOp] at h
    obtain ⟨h1, h2⟩ := evP_rep (P := P) hr t ps
    obtain ⟨v, u, h3, h4, h5⟩ := exBuild_ok h.1 h.2 h1 h2
    exact does_val hi hs hd hr ⟨v, u, by simp only [execOp, Sem.run_bind, h3, Result.andThen_ok]; rfl, h4, h5⟩
  | buildSlice t len ps =>
    simp only [exOp] at h
    obtain ⟨h1, h2⟩ := evP_rep (P := P) hr t ps
    obtain ⟨G', m', w', v, u, h3, h4, h5, h6, h7⟩ := exLit_ok h hi h1 h2
    exact does_mem hs hd hr ⟨G', m', w', v, u, .inl (by simp only [execOp, Sem.run_bind, h3, Result.andThen_ok]; rfl), h4, h5, h6, h7⟩
  | load t x =>
    simp only [exOp] at h
    obtain ⟨v, u, h1, h2, h3⟩ := exLoad_ok h hi (ev 0 x)
    exact does_val hi hs hd hr ⟨v, u, by simp [execOp, h1], h2, h3⟩
  | store t x y =>
    simp only [exOp] at h
    obtain ⟨m', w', h1, h2, h3, h4⟩ := exStore_ok h hi (ev 0 x) (ev t y)
    exact does_mem hs hd hr ⟨G, m', w', undefA, undef, .inr ⟨by simp [execOp, h1], rfl⟩, h2, h3, .raw _, h4⟩
  | nilCheck x =>
    simp only [exOp] at h
    obtain ⟨h1, h2⟩ := h
    have hx := ev 0 x
    have key : ∀ (b : AV) (xv : Value), RepA G w b xv → nilOk b = true → a.eval x = xv → (execOp a.eval ⟨dst, .nilCheck x, ty, pos, after, guard⟩).run P w = .ok (.value xv) w := by
      intro b xv hb hn hxv
      simp only [execOp, hxv]
      cases hb <;> first | (cases hn; done) | rfl
    exact does_val hi hs hd hr ⟨_, _, key _ _ hx h1 rfl, hx, h2⟩
  | binOp op t x y yt =>
    simp only [exOp] at h
    obtain ⟨v, u, h1, h2, h3⟩ := exBinO_ok (xo := x) (yo := y) h (ev t x) (ev t y)
    exact does_val hi hs hd hr ⟨v, u, by simp only [execOp]; rw [Sem.run_bind, h1]; rfl, h2, h3⟩
  | unOp op t x =>
    simp only [exOp] at h
    obtain ⟨v, u, h1, h2, h3⟩ := exUn_ok (P := P) h (ev t x)
    exact does_val hi hs hd hr ⟨v, u, by simp [execOp, h1], h2, h3⟩
  | convert s d x =>
    simp only [exOp] at h
    unfold exConvB at h
    split at h
    · rename_i hb
      obtain ⟨G', w', v, u, h1, h2, h3, h4, h5⟩ := exBytes_ok h hb hi (ev s x)
      exact does_mem hs hd hr ⟨G', σ.m, w', v, u, .inl (by simp [execOp, h1]), h2, h3, h4, h5⟩
    · obtain ⟨v, u, h1, h2, h3⟩ := exConv_ok h (ev s x)
      exact does_val hi hs hd hr ⟨v, u, by simp [execOp, h1], h2, h3⟩
  | makeInterface t x =>
    simp only [exOp] at h
    obtain ⟨h1, h2⟩ := h
    have hc : P.concrete t = true := by
      unfold concA at h1; unfold Program.concrete; exact h1
    exact does_val hi hs hd hr ⟨_, .iface t (a.eval x), by simp [execOp, run_makeInterface w t _ hc], .iface _ _ _ (ev t x), h2⟩
  | makeFunc fn first caps =>
    cases fn with
    | func f =>
      obtain ⟨h1, h2⟩ := h
      have hf : first.map a.eval = #[] := by
        apply Array.ext'
        simp at h1
        simp [h1]
      refine does_val hi hs hd hr ⟨_, .func (.func f) #[] (caps.toList.map a.eval).toArray, ?_, .fn f _ (caps.toList.map a.eval) (by simp) (fun i c v hc hv => ?_), h2⟩
      · simp only [execOp, Instr.makeFunc, hf, Sem.run_bind, Sem.run_pure, Result.andThen_ok]
        congr 3
        apply Array.ext'
        simp
      · rw [List.getElem?_map] at hc hv
        cases hx : caps.toList[i]? with
        | none => rw [hx] at hv; cases hv
        | some x => rw [hx] at hc hv; cases hc; cases hv; exact ev 0 x
    | _ => exact False.elim h
  | makeSlice t l c =>
    simp only [exOp] at h
    obtain ⟨G', m', w', v, u, h3, h4, h5, h6, h7⟩ := exMake_ok (P := P) h hi (ev 0 l) (ev 0 c)
    exact does_mem hs hd hr ⟨G', m', w', v, u, .inl (by simp [execOp, h3]), h4, h5, h6, h7⟩
  | slice t x lo hi' mx =>
    cases mx with
    | none =>
      simp only [exOp] at h
      obtain ⟨v, u, h1, h2, h3⟩ := exCut_ok h (ev t x) (opt_rep hr lo) (opt_rep hr hi')
      exact does_val hi hs hd hr ⟨v, u, by simp [execOp, h1], h2, h3⟩
    | some _ => exact False.elim h
  | fieldAddr s x f =>
    simp only [exOp] at h
    obtain ⟨v, u, h1, h2, h3⟩ := exField_ok h (ev 0 x)
    exact does_val hi hs hd hr ⟨v, u, by simp [execOp, h1], h2, h3⟩
  | field s x f =>
    simp only [exOp] at h
    obtain ⟨v, u, h1, h2, h3⟩ := exFieldV_ok h (ev s x)
    exact does_val hi hs hd hr ⟨v, u, by simp [execOp, h1], h2, h3⟩
  | indexAddr t x i =>
    simp only [exOp] at h
    obtain ⟨v, u, h1, h2, h3⟩ := exIndexAddr_ok h (ev t x) (ev 0 i)
    exact does_val hi hs hd hr ⟨v, u, by simp [execOp, h1], h2, h3⟩
  | index t x i =>
    simp only [exOp] at h
    obtain ⟨v, u, h1, h2, h3⟩ := exIndexV_ok h (ev t x) (ev 0 i)
    exact does_val hi hs hd hr ⟨v, u, by simp [execOp, h1], h2, h3⟩
  | extract x i =>
    have hx := ev 0 x
    simp only [exOp, exExtract] at h
    split at h
    · rename_i vs hv
      rw [hv] at hx
      split at h
      · rename_i v hvi
        have key : ∀ xv, RepA G w (.tup vs) xv → ∃ u, (Instr.extract xv i).run P w = .ok u w ∧ RepA G w v u := by
          intro xv hxv
          cases hxv with
          | tup _ us hl hrr =>
            have hlt : i < us.length := by rw [hl]; exact (List.getElem?_eq_some_iff.1 hvi).1
            exact ⟨us[i], by simp [Instr.extract, hlt], hrr i v _ hvi (List.getElem?_eq_getElem hlt)⟩
        obtain ⟨u, h1, h2⟩ := key _ hx
        exact does_val hi hs hd hr ⟨v, u, by simp [execOp, h1], h2, h⟩
      · exact h.elim
    · exact h.elim
  | makeMap t r =>
    cases r with
    | some r => exact False.elim h
    | none =>
      simp only [exOp] at h
      split at h
      · rename_i d
        obtain ⟨G', g1, g2, g3⟩ := hi.newMap d
        refine does_mem hs hd hr ⟨G', _, _, _, _, .inl ?_, g1, g2, .mref _ _ g3, h⟩
        simp [execOp, Instr.makeMap]
      · exact h.elim
  | lookup t x k ok =>
    simp only [exOp] at h
    obtain ⟨v, u, h1, h2, h3⟩ := exLookup_ok h hi (ev t x) (ev 0 k)
    exact does_val hi hs hd hr ⟨v, u, by simp [execOp, h1], h2, h3⟩
  | mapUpdate t x k v =>
    simp only [exOp] at h
    obtain ⟨m', w', h1, h2, h3, h4⟩ := exUpdate_ok h hi (ev t x) (ev 0 k) (ev 0 v)
    exact does_mem hs hd hr ⟨G, m', w', undefA, undef, .inr ⟨by simp [execOp, h1], rfl⟩, h2, h3, .raw _, h4⟩
  | insert t x k v =>
    simp only [exOp] at h
    obtain ⟨m', w', h1, h2, h3, h4⟩ := exUpdate_ok h hi (ev t x) (ev 0 k) (ev 0 v)
    exact does_mem hs hd hr ⟨G, m', w', undefA, undef, .inr ⟨by simp [execOp, h1], rfl⟩, h2, h3, .raw _, h4⟩
  | typeAssert x xt want ok =>
    simp only [exOp] at h
    obtain ⟨v, u, h1, h2, h3⟩ := exAssert_ok (xt := xt) h (ev 0 x)
    exact does_val hi hs hd hr ⟨v, u, by simp [execOp, h1], h2, h3⟩
  | call c =>
    simp only [exOp, exCall] at h
    obtain ⟨callee, args, argTypes⟩ := c
    have hev := evs_rep (P := P) hr argTypes args
    cases callee with
    | builtin b =>
      simp only [exBuiltin] at h
      have hres : ∀ (r : Result Value) (f : Array TypeId → TypeId → Array Value → Sem Value), (f argTypes ty (args.map a.eval)).run P w = r →
          (∀ cs, builtin b argTypes ty cs (args.map a.eval) = (do pure (.value (← f argTypes ty (args.map a.eval))))) →
          (execOp a.eval ⟨dst, .call ⟨.builtin b, args, argTypes⟩, ty, pos, after, guard⟩).run P w = r.andThen fun v w' => .ok (.value v) w' := by
        intro r f h1 h2
        simp only [execOp, resolve, Sem.run_bind, Sem.run_pure, Result.andThen_ok, invoke]
        rw [h2, Sem.run_bind, h1]
        rfl
      have hlist : (args.map a.eval) = (args.toList.map a.eval).toArray := by apply Array.ext'; simp
      split at h
      · rename_i t x hts has
        rw [has] at hev
        obtain ⟨h1, h2⟩ := hev
        have hts' : argTypes = #[t] := by apply Array.ext'; simpa using hts
        obtain ⟨y, hy⟩ := List.length_eq_one_iff.1 h1
        rw [hy] at h2
        obtain ⟨v, u, h3, h4, h5⟩ := exLen_ok (ty := ty) h (h2 0 x y rfl rfl)
        refine does_val hi hs hd hr ⟨v, u, ?_, h4, h5⟩
        have h3' := h3
        rw [← hts', ← hy, ← hlist] at h3'
        rw [hres _ Builtin.len_ h3' (fun _ => rfl)]
        rfl
      · rename_i t t' x y hts has
        rw [has] at hev
        obtain ⟨h1, h2⟩ := hev
        have hts' : argTypes = #[t, t'] := by apply Array.ext'; simpa using hts
        obtain ⟨p, q, hy⟩ : ∃ p q, args.toList.map a.eval = [p, q] := by
          match hm : args.toList.map a.eval, h1 with
          | [p, q], _ => exact ⟨p, q, rfl⟩
        rw [hy] at h2
        obtain ⟨G', m', w', v, u, h3, h4, h5, h6, h7⟩ := exAppX_ok (ty := ty) h hi (h2 0 x p rfl rfl) (h2 1 y q rfl rfl)
        refine does_mem hs hd hr ⟨G', m', w', v, u, .inl ?_, h4, h5, h6, h7⟩
        have h3' := h3
        rw [← hts', ← hy, ← hlist] at h3'
        rw [hres _ Builtin.append_ h3' (fun _ => rfl)]
        rfl
      · obtain ⟨v, u, h3, h4, h5⟩ := exMM_ok (P := P) (ts := argTypes) (ty := ty) h hev.1 hev.2
        refine does_val hi hs hd hr ⟨v, u, ?_, h4, h5⟩
        have h3' := h3
        rw [← hlist] at h3'
        rw [hres _ Builtin.min_ h3' (fun _ => rfl)]
        rfl
      · obtain ⟨v, u, h3, h4, h5⟩ := exMM_ok (P := P) (ts := argTypes) (ty := ty) h hev.1 hev.2
        refine does_val hi hs hd hr ⟨v, u, ?_, h4, h5⟩
        have h3' := h3
        rw [← hlist] at h3'
        rw [hres _ Builtin.max_ h3' (fun _ => rfl)]
        rfl
      · exact h.elim
    | value f =>
      simp only at h
      split at h
      · rename_i k caps hf
        have hfr := ev 0 f
        obtain ⟨hb, h⟩ := h
        obtain ⟨us, hfv, hul, hus⟩ : ∃ us : List Value, a.eval f = .func (.func k) #[] us.toArray ∧ us.length = caps.length ∧ ∀ (i : Nat) (c : AV) (v : Value), caps[i]? = some c → us[i]? = some v → RepA G w c v := by
          generalize a.eval f = fv at hfr
          generalize σ.ev P 0 f = fa at hf hfr
          unfold fnOf at hf
          split at hf
          · cases hf
            cases hfr with
            | fn _ _ vs h1 h2 => exact ⟨vs, rfl, h1, h2⟩
          · rename_i f' xa xb
            split at hf
            · rename_i h1 h2
              cases hf
              cases hfr
              refine ⟨[], ?_, rfl, by simp⟩
              have e1 : xa = #[] := by apply Array.ext'; simpa using h1
              have e2 : xb = #[] := by apply Array.ext'; simpa using h2
              rw [e1, e2]
            · cases hf
          · cases hf
        have hall : RepArgs G w (evs P σ argTypes args ++ caps) (args.toList.map a.eval ++ us) := by
          refine ⟨by rw [List.length_append, List.length_append, hev.1, hul], fun i c v hc hv => ?_⟩
          by_cases hlt : i < (evs P σ argTypes args).length
          · rw [List.getElem?_append_left hlt] at hc
            rw [List.getElem?_append_left (by rw [hev.1]; exact hlt)] at hv
            exact hev.2 i c v hc hv
          · rw [List.getElem?_append_right (by omega)] at hc
            rw [List.getElem?_append_right (by rw [hev.1]; omega), hev.1] at hv
            exact hus _ c v hc hv
        have hent : (execOp a.eval ⟨dst, .call ⟨.value f, args, argTypes⟩, ty, pos, after, guard⟩).run P w = .ok (.enter k (args.toList.map a.eval ++ us).toArray) w := by
          have e1 : (#[] ++ args.map a.eval ++ us.toArray : Array Value) = (args.toList.map a.eval ++ us).toArray := by apply Array.ext'; simp
          unfold bodyOk at hb
          split at hb
          · rename_i fn hfn
            simp only [Bool.and_eq_true, bne_iff_ne, ne_eq] at hb
            obtain ⟨hb1, hb2⟩ := hb
            have hb3 : fn.body.isNone = false := by cases hbb : fn.body <;> simp_all
            have hb4 : (fn.name == "runtime.NumGoroutine") = false := by simpa using hb1
            simp only [execOp, resolve, Deferred.ofValue, hfv, Sem.run_bind, Sem.run_pure, Result.andThen_ok, invoke, callFunc, run_program, hfn, hb3, hb4, Bool.false_eq_true, if_false]
            rw [e1]
          · cases hb
        intro Q
        unfold Oper.wp
        rw [hent]
        show Calls P k _ w _
        split at h
        · obtain ⟨as, has, h | h | h⟩ := h
          rotate_left
          · refine (inlK_ok hT h hi hall).mono ?_
            rintro e w' ⟨v, m2, r2, G2, rfl, g1, g2, g3, g4⟩
            exact ⟨_, St.step hs hd hr g1 g2 g3, g4⟩
          · refine (effK_ok hT h hi hall).mono ?_
            rintro e w' ⟨v, m2, r2, G2, rfl, g1, g2, g3, g4⟩
            exact ⟨_, St.step hs hd hr g1 g2 g3, g4⟩
          obtain ⟨R, hcall, hK⟩ := h
          have hrep := stripL_rep _ _ _ has hall
          unfold PCall at hcall
          refine (hcall G.st w _ (hT w hi.kept) (fun b o hst => st_lt hi hst) hrep).mono ?_
          rintro e w' ⟨v, r, G', m', rfl, g1, g4, g5, g6⟩
          obtain ⟨G2, k1, k2, k3⟩ := hi.call g1
          refine ⟨_, St.step hs hd hr k1 k2 (shV_rep k3 g4 g5), hK m' r g6 _ _ (Nat.le_add_right _ _) (fun j hj => .inl hj) (fun j hj => .inr ⟨Nat.le_add_right _ _, ?_⟩)⟩
          rw [Nat.add_sub_cancel_left]
          exact hj
        · rcases h with ⟨as, has, r, hcall, hp, hK⟩ | h | h
          · have hrep := lendL_rep hi _ _ _ has hall
            unfold PCall at hcall
            refine (hcall (stAll w) w _ (hT w hi.kept) (fun b o hst => hst) hrep).mono ?_
            rintro e w' ⟨v, r', G', m', rfl, g1, g4, g5, rfl⟩
            obtain ⟨k1, k2⟩ := hi.lent g1
            exact ⟨_, St.step hs hd hr k1 k2 (plain_rep g4 hp), hK⟩
          · refine (effK_ok hT h hi hall).mono ?_
            rintro e w' ⟨v, m2, r2, G2, rfl, g1, g2, g3, g4⟩
            exact ⟨_, St.step hs hd hr g1 g2 g3, g4⟩
          · refine (inlK_ok hT h hi hall).mono ?_
            rintro e w' ⟨v, m2, r2, G2, rfl, g1, g2, g3, g4⟩
            exact ⟨_, St.step hs hd hr g1 g2 g3, g4⟩
      · exact h.elim
    | invoke r m => exact h.elim
  | _ => exact False.elim h

end

theorem exOp_nd {P : Program} {o : Oper} {σ : AS} {K : AS → Prop} (h : exOp P o σ K) (c : Call) : o.op ≠ .defer c := by
  intro hc
  unfold exOp at h
  rw [hc] at h
  exact h

attribute [irreducible] exOp callK quietK callX effX

end Go.AB
