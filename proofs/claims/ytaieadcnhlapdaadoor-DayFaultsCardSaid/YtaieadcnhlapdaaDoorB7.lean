/- Building of aggregates and literals of slices; zero values and constants; make; the operations of one step in one function. -/
import Derived.Test.YtaieadcnhlapdaaDoorB6
namespace Go.AB

/-- Cells that stand for values, one by one. -/
structure RepL (G : Gh) (w : World) (cs : List AV) (vs : List Value) : Prop where
  len : vs.length = cs.length
  one : ∀ v ∈ vs, oneCell v = true
  rep : ∀ (i : Nat) (c : AV) (v : Value), cs[i]? = some c → vs[i]? = some v → RepA G w c v

theorem RepL.toAgg {G : Gh} {w : World} {cs : List AV} {vs : List Value} (h : RepL G w cs vs) : RepA G w (.agg cs) (.agg vs.toArray) := .agg cs vs h.len h.one h.rep

def isCell : AV → Bool
  | .tup _ => false
  | .raw v => oneCell v
  | _ => true

theorem RepA.cells {G : Gh} {w : World} {a : AV} {x : Value} (h : RepA G w a x) (hc : isCell a = true) : RepL G w (acells a) x.cells.toList := by
  cases h with
  | agg cs vs h1 h2 h3 => exact ⟨by simpa [acells, Value.cells] using h1, by simpa [Value.cells] using h2, by simpa [acells, Value.cells] using h3⟩
  | tup => cases hc
  | raw =>
    have hv : x.cells = #[x] := by cases x <;> first | rfl | (simp [isCell, oneCell] at hc)
    rw [hv]
    refine ⟨rfl, by simpa [isCell] using hc, fun i c u h1 h2 => ?_⟩
    cases i with
    | zero => simp [acells] at h1 h2; subst h1 h2; exact .raw _
    | succ i => simp at h2
  | int k n => exact ⟨rfl, by simp [Value.cells, oneCell], fun i c u h1 h2 => by cases i <;> simp_all [acells, Value.cells]; subst h1 h2; exact .int _ _⟩
  | bool b => exact ⟨rfl, by simp [Value.cells, oneCell], fun i c u h1 h2 => by cases i <;> simp_all [acells, Value.cells]; subst h1 h2; exact .bool _⟩
  | str b => exact ⟨rfl, by simp [Value.cells, oneCell], fun i c u h1 h2 => by cases i <;> simp_all [acells, Value.cells]; subst h1 h2; exact .str _⟩
  | sl z es t A c h1 h2 => exact ⟨rfl, by simp [Value.cells, oneCell], fun i c u h3 h4 => by cases i <;> simp_all [acells, Value.cells]; subst h3 h4; exact .sl _ _ _ _ _ h1 h2⟩
  | ptr l off b o h h0 => exact ⟨rfl, by simp [Value.cells, oneCell], fun i c u h3 h4 => by cases i <;> simp_all [acells, Value.cells]; subst h3 h4; exact .ptr _ _ _ _ h h0⟩
  | ept cs b o h => exact ⟨rfl, by simp [Value.cells, oneCell], fun i c u h3 h4 => by cases i <;> simp_all [acells, Value.cells]; subst h3 h4; exact .ept _ _ _ h⟩
  | fn f cs vs h1 h2 => exact ⟨rfl, by simp [Value.cells, oneCell], fun i c u h3 h4 => by cases i <;> simp_all [acells, Value.cells]; subst h3 h4; exact .fn _ _ _ h1 h2⟩
  | iface t v x h => exact ⟨rfl, by simp [Value.cells, oneCell], fun i c u h3 h4 => by cases i <;> simp_all [acells, Value.cells]; subst h3 h4; exact .iface _ _ _ h⟩
  | msl l off len cap b o h h0 g1 g2 => exact ⟨rfl, by simp [Value.cells, oneCell], fun i c u h3 h4 => by cases i <;> simp_all [acells, Value.cells]; subst h3 h4; exact .msl _ _ _ _ _ _ h h0 g1 g2⟩
  | mref l b h => exact ⟨rfl, by simp [Value.cells, oneCell], fun i c u h3 h4 => by cases i <;> simp_all [acells, Value.cells]; subst h3 h4; exact .mref _ _ h⟩
  | bref l b h => exact ⟨rfl, by simp [Value.cells, oneCell], fun i c u h3 h4 => by cases i <;> simp_all [acells, Value.cells]; subst h3 h4; exact .bref _ _ h⟩

def splV (cs : List Value) (off : Nat) (new : List Value) : List Value := cs.take off ++ new ++ cs.drop (off + new.length)

theorem splV_get {cs new : List Value} {off j : Nat} (h : off + new.length ≤ cs.length) : (splV cs off new)[j]? = if off ≤ j ∧ j < off + new.length then new[j - off]? else cs[j]? := by
  unfold splV
  have h1 : (cs.take off).length = off := by simp; omega
  by_cases hj : j < off
  · rw [if_neg (by omega), List.append_assoc, List.getElem?_append_left (by omega), List.getElem?_take_of_lt hj]
  · by_cases hj2 : j < off + new.length
    · rw [if_pos ⟨by omega, hj2⟩, List.append_assoc, List.getElem?_append_right (by omega), h1, List.getElem?_append_left (by omega)]
    · rw [if_neg (by omega), List.getElem?_append_right (by simp; omega), List.getElem?_drop]
      congr 1
      simp; omega

theorem RepL.spl {G : Gh} {w : World} {cs new : List AV} {vs us : List Value} {off : Nat} (h : RepL G w cs vs) (k : RepL G w new us) (hf : off + new.length ≤ cs.length) : RepL G w (spl cs off new) (splV vs off us) := by
  refine ⟨?_, fun v hv => ?_, fun i c v hc hv => ?_⟩
  · have h1 := h.len; have h2 := k.len
    simp [AB.spl, splV]; omega
  · simp only [splV, List.mem_append] at hv
    rcases hv with (hv | hv) | hv
    · exact h.one v (List.mem_of_mem_take hv)
    · exact k.one v hv
    · exact h.one v (List.mem_of_mem_drop hv)
  · rw [spl_get hf] at hc
    rw [splV_get (by rw [k.len, h.len]; exact hf), k.len] at hv
    split at hc
    · rename_i hr
      rw [if_pos hr] at hv
      exact k.rep _ c v hc hv
    · rename_i hr
      rw [if_neg hr] at hv
      exact h.rep _ c v hc hv

theorem foldl_set (off : Nat) : ∀ (new : List Value) (k : Nat) (cs : Array Value), off + k + new.length ≤ cs.size →
    ((new.zipIdx k).foldl (fun (cs : Array Value) (x : Value × Nat) => cs.setIfInBounds (off + x.2) x.1) cs).toList = splV cs.toList (off + k) new
  | [], k, cs, _ => by simp [splV]
  | v :: r, k, cs, h => by
    simp only [List.length_cons] at h
    rw [List.zipIdx_cons, List.foldl_cons, foldl_set off r (k + 1) _ (by simp; omega)]
    apply List.ext_getElem?
    intro j
    rw [splV_get (by simp; omega), splV_get (by simp; omega)]
    simp only [Array.toList_setIfInBounds, List.length_cons]
    by_cases h1 : j = off + k
    · subst h1
      rw [if_neg (show ¬ (off + (k + 1) ≤ off + k ∧ off + k < off + (k + 1) + r.length) by omega), if_pos (show off + k ≤ off + k ∧ off + k < off + k + (r.length + 1) by omega)]
      have : off + k < cs.toList.length := by simp; omega
      rw [List.getElem?_set_self this]
      simp
    · have hset : (cs.toList.set (off + k) v)[j]? = cs.toList[j]? := List.getElem?_set_ne (fun e => h1 e.symm)
      by_cases h2 : off + (k + 1) ≤ j ∧ j < off + (k + 1) + r.length
      · rw [if_pos h2, if_pos (show off + k ≤ j ∧ j < off + k + (r.length + 1) by omega)]
        rw [show j - (off + k) = (j - (off + (k + 1))) + 1 from by omega, List.getElem?_cons_succ]
      · rw [if_neg h2, if_neg (show ¬ (off + k ≤ j ∧ j < off + k + (r.length + 1)) by omega), hset]

def fillA (pl : Nat → Option (Nat × Nat)) : List AV → List (Nat × AV) → Option (List AV)
  | cs, [] => some cs
  | cs, (i, v) :: r => match pl i with
    | some (off, n) => if isCell v = true ∧ (acells v).length = n ∧ off + n ≤ cs.length then fillA pl (spl cs off (acells v)) r else none
    | none => none

theorem fillA_ok {G : Gh} {w : World} {pl : Nat → Option (Nat × Nat)} : ∀ (ps : List (Nat × AV)) (cs : List AV) (cells : Array Value) (qs : List (Nat × Value)) (r : List AV), fillA pl cs ps = some r → RepL G w cs cells.toList →
    qs.length = ps.length → (∀ (i : Nat) (p : Nat × AV) (q : Nat × Value), ps[i]? = some p → qs[i]? = some q → p.1 = q.1 ∧ RepA G w p.2 q.2) →
    ∃ out, Instr.fill pl cells qs = some out ∧ RepL G w r out.toList
  | [], cs, cells, qs, r, h, hr, hl, _ => by
    cases qs with
    | nil => cases h; exact ⟨cells, rfl, hr⟩
    | cons _ _ => simp at hl
  | (i, v) :: ps, cs, cells, qs, r, h, hr, hl, hq => by
    cases qs with
    | nil => simp at hl
    | cons q qs =>
      obtain ⟨i', x⟩ := q
      obtain ⟨e1, e2⟩ := hq 0 _ _ rfl rfl
      simp only at e1 e2
      subst e1
      simp only [fillA] at h
      split at h
      · rename_i off n hpl
        split at h
        · rename_i hc
          obtain ⟨c1, c2, c3⟩ := hc
          have hx := e2.cells c1
          have hsz : x.cells.size = n := by rw [← c2, ← hx.len]; simp
          have hcs : cells.size = cs.length := by have := hr.len; simpa using this
          have hfold := foldl_set off x.cells.toList 0 cells (by simp; omega)
          rw [Nat.add_zero] at hfold
          have hstep : Instr.fill pl cells ((i, x) :: qs) = Instr.fill pl ((x.cells.zipIdx).foldl (fun (cs : Array Value) (y : Value × Nat) => cs.setIfInBounds (off + y.2) y.1) cells) qs := by
            have h2 : ¬ (x.cells.size ≠ n) := by simp [hsz]
            have h3 : ¬ (off + x.cells.size > cells.size) := by omega
            simp only [Instr.fill, hpl]
            simp [hsz]
            intro h4
            omega
          have hto : ((x.cells.zipIdx).foldl (fun (cs : Array Value) (y : Value × Nat) => cs.setIfInBounds (off + y.2) y.1) cells).toList = splV cells.toList off x.cells.toList := by
            rw [← hfold, ← Array.foldl_toList]
            congr 1
            simp
          rw [hstep]
          exact fillA_ok ps _ _ qs r h (by rw [hto]; exact hr.spl hx (by rw [c2]; exact c3)) (by simpa using hl) (fun j p q h1 h2 => hq (j + 1) p q h1 h2)
        · cases h
      · cases h

/-- Where the parts of a struct or of an array lie. -/
def plA (P : Program) (t i : Nat) : Option (Nat × Nat) := match P.underlying t with
  | some (.struct fs) => match fs[i]? with
    | some f => match P.info? f.type with
      | some x => some (f.offset, x.size)
      | none => none
    | none => none
  | some (.array _ e) => match P.info? e with
    | some x => some (i * x.size, x.size)
    | none => none
  | _ => none

/-- The types of an aggregate's cells. -/
def leafs (P : Program) : Nat → Nat → List Nat
  | 0, _ => []
  | k + 1, t => match P.underlying t with
    | some (.struct fs) => fs.toList.flatMap fun f => leafs P k f.type
    | some (.array n e) => (List.replicate n (leafs P k e)).flatten
    | _ => [t]

def leafZ (P : Program) (t : Nat) (v : Value) : AV := match v with
  | .slice none 0 0 => (match slA P t with
    | some z => .sl z [] .nil
    | none => .raw v)
  | .int k n => .int k n
  | .bool b => .bool b
  | .string s => .str s.data.toList
  | v => .raw v

theorem leafZ_rep {P : Program} {G : Gh} {w : World} (t : Nat) (v : Value) : RepA G w (leafZ P t v) v := by
  unfold leafZ
  split
  · split
    · exact .sl _ [] .nil none 0 ⟨by simp, by simp [maxLen], by simp, .inl ⟨rfl, rfl⟩⟩ rfl
    · exact .raw _
  · exact .int _ _
  · exact .bool _
  · rename_i s
    have : (⟨s.data.toList.toArray⟩ : ByteArray) = s := by cases s; simp
    have h := RepA.str (G := G) (w := w) s.data.toList
    rwa [this] at h
  · exact .raw _

def zipZ (P : Program) : List Nat → List Value → List AV
  | t :: ts, v :: vs => leafZ P t v :: zipZ P ts vs
  | _, _ => []

theorem zipZ_rep {P : Program} {G : Gh} {w : World} : ∀ (ts : List Nat) (vs : List Value), ts.length = vs.length → (∀ v ∈ vs, oneCell v = true) → RepL G w (zipZ P ts vs) vs
  | [], [], _, _ => ⟨rfl, by simp, by simp⟩
  | t :: ts, v :: vs, hl, ho => by
    have ih := zipZ_rep (P := P) (G := G) (w := w) ts vs (by simpa using hl) (fun v hv => ho v (by simp [hv]))
    refine ⟨by simp [zipZ, ih.len], ho, fun i c u hc hu => ?_⟩
    cases i with
    | zero => simp [zipZ] at hc hu; subst hc hu; exact leafZ_rep t _
    | succ i => exact ih.rep i c u (by simpa [zipZ] using hc) (by simpa using hu)
  | [], _ :: _, hl, _ => by simp at hl
  | _ :: _, [], hl, _ => by simp at hl

/-- The cells of a type's zero value. -/
def zeroA (P : Program) (t : Nat) : Option (List AV) := match P.info? t with
  | some i => match i.zero with
    | some v => if (leafs P 12 t).length = v.cells.toList.length ∧ v.cells.toList.all oneCell = true ∧ v.cells.size = i.size then some (zipZ P (leafs P 12 t) v.cells.toList) else none
    | none => none
  | none => none

theorem zeroA_of {P : Program} {t : Nat} {cs : List AV} (h : zeroA P t = some cs) : ∃ i v, P.info? t = some i ∧ i.zero = some v ∧ v.cells.size = i.size ∧ ∀ (G : Gh) (w : World), RepL G w cs v.cells.toList := by
  unfold zeroA at h
  split at h
  · rename_i i hi
    split at h
    · rename_i v hv
      split at h
      · rename_i hc
        cases h
        exact ⟨i, v, hi, hv, hc.2.2, fun G w => zipZ_rep _ _ hc.1 (List.all_eq_true.1 hc.2.1)⟩
      · cases h
    · cases h
  · cases h

def exBuild (P : Program) (t : Nat) (ps : List (Nat × AV)) (K : AV → Prop) : Prop := match zeroA P t with
  | some zs => match fillA (plA P t) zs ps with
    | some cs => K (.agg cs)
    | none => False
  | none => False

end Go.AB
