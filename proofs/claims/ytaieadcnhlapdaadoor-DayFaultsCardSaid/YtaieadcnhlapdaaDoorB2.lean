/- What each operation does to an abstract state; that the real operation does the same: operations that only compute or read. -/
import Derived.Test.YtaieadcnhlapdaaDoorB1
import Derived.Laws.Entries
import Derived.Laws.Cells
import Derived.Laws.CopyRow
import Derived.Laws.Small
import Derived.Laws.Append
namespace Go.AB

theorem add_at (b o n : Nat) : (⟨b, o, none⟩ : Addr).add n = ⟨b, o + n, none⟩ := Addr.add_lit b o n

/-- Aggregate or not, and the number of cells. -/
def tyA (P : Program) (t : Nat) : Option (Bool × Nat) :=
  match P.underlying t, P.info? t with
  | some d, some i => some (match d with | .struct _ | .array _ _ => true | _ => false, i.size)
  | _, _ => none

section
variable {P : Program} {w : World} {t : Nat}

theorem tyA_size {b : Bool} {n : Nat} (h : tyA P t = some (b, n)) : (sizeOf t).run P w = .ok n w := by
  unfold tyA at h
  split at h
  · rename_i d i _ hi
    simp at h
    simp [sizeOf, typeInfo, hi, h.2]
  · cases h

theorem tyA_agg {b : Bool} {n : Nat} (h : tyA P t = some (b, n)) : (isAgg t).run P w = .ok b w := by
  unfold tyA at h
  split at h
  · rename_i d i hd _
    simp at h
    simp only [isAgg, Sem.run_bind, run_underlying hd, Result.andThen_ok]
    rw [← h.1]
    cases d <;> rfl
  · cases h

theorem tyA_info {b : Bool} {n : Nat} (h : tyA P t = some (b, n)) : ∃ i, P.info? t = some i ∧ i.size = n := by
  unfold tyA at h
  split at h
  · rename_i d i _ hi
    simp at h
    exact ⟨i, hi, h.2⟩
  · cases h
end

/-- A struct's field: where it begins; none of no cells. -/
def fldA (P : Program) (s f : Nat) : Option Nat :=
  match P.underlying s with
  | some (.struct fs) => match fs[f]? with
    | some x => match P.info? x.type with
      | some i => if i.size = 0 then none else some x.offset
      | none => none
    | none => none
  | _ => none

theorem RepD.one {st : Nat → Nat → Prop} {w : World} {d : DV} {v : Value} (h : RepD st w d v) : oneCell v = true := by
  cases h <;> first | rfl | assumption

theorem RepD.toA {G : Gh} {w : World} {d : DV} {v : Value} (h : RepD G.st w d v) : RepA G w (toAV d) v := by
  cases h with
  | int k n => simp only [toAV]; exact .int k n
  | bool b => simp only [toAV]; exact .bool b
  | str s => simp only [toAV]; exact .str s
  | raw v h => simp only [toAV]; exact .raw v
  | emp z A =>
    simp only [toAV]
    exact .sl z [] .no A 0 ⟨by simp, by simp [maxLen], by simp, .inl ⟨rfl, rfl⟩⟩ trivial
  | sl z es b o c f h1 h2 h3 h4 h5 =>
    simp only [toAV]
    exact .sl z es .no _ c ⟨h1, h2, h3, .inr ⟨b, o, rfl, fun i e he j d hd => ⟨(h4 i e he j d hd).1, _, (h4 i e he j d hd).2, h5 i e he j d hd⟩⟩⟩ trivial

theorem toAVs_get : ∀ (cs : List DV) (i : Nat), (toAVs cs)[i]? = (cs[i]?).map toAV
  | [], i => by simp [toAVs]
  | d :: r, 0 => by simp [toAVs]
  | d :: r, i + 1 => by simp [toAVs, toAVs_get r i]

theorem toAVs_length : ∀ (cs : List DV), (toAVs cs).length = cs.length
  | [] => rfl
  | d :: r => by simp [toAVs, toAVs_length r]

/-- The cells at a place, one behind the other. -/
theorem cells_list {w : World} {b o : Nat} {p : Nat → Value → Prop} : ∀ (n k : Nat), (∀ j, j < n → ∃ v, w.cell? ⟨b, o + (k + j), none⟩ = some v ∧ p (k + j) v) →
    ∃ vs : List Value, vs.length = n ∧ ∀ j v, vs[j]? = some v → w.cell? ⟨b, o + (k + j), none⟩ = some v ∧ p (k + j) v
  | 0, k, _ => ⟨[], rfl, by simp⟩
  | n + 1, k, h => by
    obtain ⟨v0, h0, p0⟩ := h 0 (by omega)
    obtain ⟨vs, hl, hv⟩ := cells_list n (k + 1) (fun j hj => by have := h (j + 1) (by omega); rwa [show k + (j + 1) = k + 1 + j from by omega] at this)
    refine ⟨v0 :: vs, by simp [hl], fun j v hj => ?_⟩
    cases j with
    | zero => simp at hj; subst hj; exact ⟨h0, p0⟩
    | succ j =>
      simp at hj
      have := hv j v hj
      rwa [show k + 1 + j = k + (j + 1) from by omega] at this

/-- What a load takes out of cells. -/
def ldA (ty : Option (Bool × Nat)) (cs : List AV) (K : AV → Prop) : Prop := match ty with
  | some (true, n) => n ≤ cs.length ∧ K (.agg (cs.take n))
  | some (false, _) => match cs with
    | v :: _ => K v
    | [] => False
  | none => False

def exLoad (P : Program) (m : AH) (t : Nat) (a : AV) (K : AV → Prop) : Prop := match a with
  | .ptr l off => match m.cells l with
    | some cs => ldA (tyA P t) (cs.drop off) K
    | none => False
  | .ept cs => ldA (tyA P t) (toAVs cs) K
  | _ => False

theorem ldA_ok {P : Program} {G : Gh} {w : World} {t : Nat} {cs : List AV} {K : AV → Prop} {b o : Nat} (h : ldA (tyA P t) cs K)
    (hc : ∀ j c, cs[j]? = some c → ∃ v, w.cell? ⟨b, o + j, none⟩ = some v ∧ oneCell v = true ∧ RepA G w c v) :
    ∃ v x, (Instr.loadAt t (.pointer (some ⟨b, o, none⟩))).run P w = .ok x w ∧ RepA G w v x ∧ K v := by
  unfold ldA at h
  split at h
  · rename_i n hty
    obtain ⟨hn, hK⟩ := h
    obtain ⟨vs, hl, hv⟩ := cells_list (w := w) (b := b) (o := o) (p := fun j v => oneCell v = true ∧ ∀ c, cs[j]? = some c → RepA G w c v) n 0 (fun j hj => by
      have hlt : j < cs.length := by omega
      obtain ⟨v, h1, h2, h3⟩ := hc j _ (List.getElem?_eq_getElem hlt)
      refine ⟨v, by simpa using h1, h2, fun c hcj => ?_⟩
      rw [Nat.zero_add, List.getElem?_eq_getElem hlt] at hcj
      cases hcj
      exact h3)
    refine ⟨_, .agg vs.toArray, ?_, .agg (cs.take n) vs (by simp [hl]; omega) ?_ ?_, hK⟩
    · have hL := run_loadCells_list (P := P) w ⟨b, o, none⟩ vs (fun j v hj => by rw [add_at]; simpa using (hv j v hj).1)
      rw [hl] at hL
      simp [Instr.loadAt, Instr.sureAddr, loadVar, tyA_agg hty, tyA_size hty, hL]
    · intro v hvm
      obtain ⟨j, hj⟩ := List.getElem?_of_mem hvm
      exact (hv j v hj).2.1
    · intro i c v hci hvi
      have hin : i < n := by
        have := (List.getElem?_eq_some_iff.1 hvi).1
        omega
      rw [List.getElem?_take_of_lt hin] at hci
      exact (hv i v hvi).2.2 c (by simpa using hci)
  · rename_i n hty
    cases cs with
    | nil => exact h.elim
    | cons c r =>
      obtain ⟨v, h1, h2, h3⟩ := hc 0 c rfl
      refine ⟨c, v, ?_, h3, h⟩
      have h1' : w.cell? ⟨b, o, none⟩ = some v := by simpa using h1
      simp [Instr.loadAt, Instr.sureAddr, loadVar, tyA_agg hty, h1']
  · exact h.elim

theorem exLoad_ok {P : Program} {E : Env} {G : Gh} {m : AH} {w : World} {t : Nat} {a : AV} {x : Value} {K : AV → Prop} (h : exLoad P m t a K) (hi : Inv E G m w) (hr : RepA G w a x) :
    ∃ v y, (Instr.loadAt t x).run P w = .ok y w ∧ RepA G w v y ∧ K v := by
  unfold exLoad at h
  split at h
  · rename_i l off
    split at h
    · rename_i cs hcs
      cases hr with
      | ptr _ _ b o hb h0 =>
        obtain ⟨b', o', hb', _, _, _, hc, _⟩ := hi.box l cs hcs
        rw [hb] at hb'
        cases hb'
        refine ldA_ok h (fun j c hj => ?_)
        rw [List.getElem?_drop] at hj
        obtain ⟨_, v, h1, h2, h3⟩ := hc h0 _ _ hj
        exact ⟨v, by rw [← h1]; congr 2; omega, h2, h3⟩
    · exact h.elim
  · rename_i cs
    cases hr with
    | ept _ b o hc =>
      refine ldA_ok h (fun j c hj => ?_)
      rw [toAVs_get] at hj
      cases hd : cs[j]? with
      | none => rw [hd] at hj; cases hj
      | some d =>
        rw [hd] at hj
        cases hj
        obtain ⟨_, v, h1, h2⟩ := hc j d hd
        exact ⟨v, h1, h2.one, h2.toA⟩
  · exact h.elim

def exField (P : Program) (s : Nat) (a : AV) (f : Nat) (K : AV → Prop) : Prop := match fldA P s f with
  | some off => match a with
    | .ptr l o => K (.ptr l (o + off))
    | .ept cs => K (.ept (cs.drop off))
    | _ => False
  | none => False

theorem CsAt.drop {st : Nat → Nat → Prop} {w : World} {cs : List DV} {b o : Nat} (h : CsAt st w cs b o) (n : Nat) : CsAt st w (cs.drop n) b (o + n) := by
  intro j d hd
  rw [List.getElem?_drop] at hd
  have := h _ _ hd
  rwa [← Nat.add_assoc] at this

theorem exField_ok {P : Program} {G : Gh} {w : World} {s f : Nat} {a : AV} {x : Value} {K : AV → Prop} (h : exField P s a f K) (hr : RepA G w a x) :
    ∃ v y, (Instr.fieldAt s x f).run P w = .ok y w ∧ RepA G w v y ∧ K v := by
  unfold exField at h
  split at h
  · rename_i off hf
    have run : ∀ b o, (Instr.fieldAt s (.pointer (some ⟨b, o, none⟩)) f).run P w = .ok (.pointer (some ⟨b, o + off, none⟩)) w := by
      intro b o
      unfold fldA at hf
      split at hf
      · rename_i fs hu
        split at hf
        · rename_i fd hfd
          split at hf
          · rename_i i hi
            split at hf
            · cases hf
            · rename_i hz
              cases hf
              simp [Instr.fieldAt, run_underlying hu, hfd, Instr.sureAddr, fieldPlace, sizeOf, typeInfo, hi, hz, add_at]
          · cases hf
        · cases hf
      · cases hf
    split at h
    · rename_i l o
      cases hr with
      | ptr _ _ b o' hb h0 => exact ⟨_, _, run _ _, by rw [Nat.add_assoc]; exact .ptr l _ b o' hb h0, h⟩
    · rename_i cs
      cases hr with
      | ept _ b o hc => exact ⟨_, _, run _ _, .ept _ _ _ (hc.drop off), h⟩
    · exact h.elim
  · exact h.elim

/-- The element's type and its cells, of a slice; the length, the element's type and its cells, of an array. -/
def slA (P : Program) (t : Nat) : Option Nat := match P.underlying t with
  | some (.slice e) => match P.info? e with
    | some i => some i.size
    | none => none
  | _ => none
def arA (P : Program) (t : Nat) : Option (Nat × Nat) := match P.underlying t with
  | some (.array n e) => match P.info? e with
    | some i => some (n, i.size)
    | none => none
  | _ => none

theorem slA_of {P : Program} {t z : Nat} (h : slA P t = some z) : ∃ e i, P.underlying t = some (.slice e) ∧ P.info? e = some i ∧ i.size = z := by
  unfold slA at h
  split at h
  · rename_i e hu
    split at h
    · rename_i i hi; cases h; exact ⟨e, i, hu, hi, rfl⟩
    · cases h
  · cases h
theorem arA_of {P : Program} {t n z : Nat} (h : arA P t = some (n, z)) : ∃ e i, P.underlying t = some (.array n e) ∧ P.info? e = some i ∧ i.size = z := by
  unfold arA at h
  split at h
  · rename_i n' e hu
    split at h
    · rename_i i hi; cases h; exact ⟨e, i, hu, hi, rfl⟩
    · cases h
  · cases h

def exIndexAddr (P : Program) (t : Nat) (a i : AV) (K : AV → Prop) : Prop := match a, i with
  | .sl z es _, .int _ n => slA P t = some z ∧ 0 ≤ n ∧ ∃ e, es[n.toNat]? = some e ∧ K (.ept (dcells e))
  | .ptr l o, .int _ n => match arA P t with
    | some (len, z) => 0 ≤ n ∧ n < (len : Int) ∧ K (.ptr l (o + n.toNat * z))
    | none => False
  | .msl l o len _, .int _ n => match slA P t with
    | some z => 0 ≤ n ∧ n < (len : Int) ∧ K (.ptr l (o + n.toNat * z))
    | none => False
  | _, _ => False

theorem exIndexAddr_ok {P : Program} {G : Gh} {w : World} {t : Nat} {a i : AV} {x y : Value} {K : AV → Prop} (h : exIndexAddr P t a i K) (hr : RepA G w a x) (hy : RepA G w i y) :
    ∃ v u, (Instr.indexAt t x y).run P w = .ok u w ∧ RepA G w v u ∧ K v := by
  unfold exIndexAddr at h
  split at h
  · rename_i z es tok k n
    obtain ⟨hz, h0, d, hd, hK⟩ := h
    obtain ⟨e, inf, hu, hinf, hsz⟩ := slA_of hz
    have hlt := (List.getElem?_eq_some_iff.1 hd).1
    have h1 : n < (es.length : Int) := by omega
    cases hy
    cases hr with
    | sl _ _ _ A c hs _ =>
      obtain ⟨_, _, h3, h4⟩ := hs
      rcases h4 with ⟨he, _⟩ | ⟨b, o, rfl, h4⟩
      · subst he; simp at hd
      · refine ⟨_, .pointer (some ⟨b, o + n.toNat * z, none⟩), ?_, .ept _ _ _ (fun j dd hj => ?_), hK⟩
        · simp [Instr.indexAt, run_underlying hu, asIntOf, h0, h1, sizeOf, typeInfo, hinf, hsz, add_at]
        · have := h4 _ _ hd j dd hj
          rwa [← Nat.add_assoc] at this
  · rename_i l o k n
    split at h
    · rename_i len z hz
      obtain ⟨e, inf, hu, hinf, hsz⟩ := arA_of hz
      obtain ⟨h0, h1, hK⟩ := h
      cases hy
      cases hr with
      | ptr _ _ b o' hb hmk =>
        refine ⟨_, .pointer (some ⟨b, o' + (o + n.toNat * z), none⟩), ?_, .ptr l _ b o' hb hmk, hK⟩
        simp [Instr.indexAt, run_underlying hu, asIntOf, h0, h1, sizeOf, typeInfo, hinf, hsz, add_at, Instr.sureAddr, Nat.add_assoc]
    · exact h.elim
  · rename_i l o len cap k n
    split at h
    · rename_i z hz
      obtain ⟨e, inf, hu, hinf, hsz⟩ := slA_of hz
      obtain ⟨h0, h1, hK⟩ := h
      cases hy
      cases hr with
      | msl _ _ _ _ b o' hb hmk _ _ =>
        refine ⟨_, .pointer (some ⟨b, o' + (o + n.toNat * z), none⟩), ?_, .ptr l _ b o' hb hmk, hK⟩
        simp [Instr.indexAt, run_underlying hu, asIntOf, h0, h1, sizeOf, typeInfo, hinf, hsz, add_at, Nat.add_assoc]
    · exact h.elim
  · exact h.elim

end Go.AB
