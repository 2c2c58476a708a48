/- More operations that only compute: parts and building of aggregates, lengths, cuts, conversions, the least and the greatest. -/
import Derived.Test.YtaieadcnhlapdaaDoorB3
import Derived.Laws.Build
namespace Go.AB

def exUn (op : UnOp) (a : AV) (K : AV → Prop) : Prop := match op, a with
  | .neg, .int k n => K (.int k (k.wrap (0 - n)))
  | .not, .bool b => K (.bool (!b))
  | _, _ => False

theorem exUn_ok {P : Program} {G : Gh} {w : World} {op : UnOp} {a : AV} {x : Value} {K : AV → Prop} (h : exUn op a K) (hx : RepA G w a x) :
    ∃ v u, (Op.unary op x).run P w = .ok u w ∧ RepA G w v u ∧ K v := by
  unfold exUn at h
  split at h
  · cases hx; exact ⟨_, _, by simp only [Op.unary, Op.intArith, Sem.run_pure], .int _ _, h⟩
  · cases hx; exact ⟨_, _, by simp [Op.unary], .bool _, h⟩
  · exact h.elim

/-- The kind of whole numbers that a type is of. -/
def ikA (P : Program) (t : Nat) : Option IntKind := match P.underlying t with
  | some (.int k) => some k
  | _ => none
def strA (P : Program) (t : Nat) : Bool := match P.underlying t with
  | some .string => true
  | _ => false
def knownA (P : Program) (t : Nat) : Bool := (P.underlying t).isSome

theorem ikA_of {P : Program} {t : Nat} {k : IntKind} (h : ikA P t = some k) : P.underlying t = some (.int k) := by
  unfold ikA at h
  split at h
  · cases h; assumption
  · cases h
theorem strA_of {P : Program} {t : Nat} (h : strA P t = true) : P.underlying t = some .string := by
  unfold strA at h
  split at h
  · assumption
  · cases h

def exConv (P : Program) (src dst : Nat) (a : AV) (K : AV → Prop) : Prop := match a with
  | .int _ n => match ikA P dst with
    | some k => knownA P src = true ∧ K (.int k (k.wrap n))
    | none => False
  | .str s => strA P dst = true ∧ knownA P src = true ∧ K (.str s)
  | _ => False

theorem exConv_ok {P : Program} {G : Gh} {w : World} {src dst : Nat} {a : AV} {x : Value} {K : AV → Prop} (h : exConv P src dst a K) (hx : RepA G w a x) :
    ∃ v u, (convert src dst x).run P w = .ok u w ∧ RepA G w v u ∧ K v := by
  unfold exConv at h
  split at h
  · split at h
    · rename_i k hk
      obtain ⟨hs, hK⟩ := h
      have hd := ikA_of hk
      obtain ⟨d, hd'⟩ := Option.isSome_iff_exists.mp hs
      cases hx
      exact ⟨_, _, by simp [convert, run_underlying hd', run_underlying hd, Conv.intToInt], .int _ _, hK⟩
    · exact h.elim
  · obtain ⟨hd, hs, hK⟩ := h
    have hd := strA_of hd
    obtain ⟨d, hd'⟩ := Option.isSome_iff_exists.mp hs
    cases hx
    exact ⟨_, _, by simp [convert, run_underlying hd', run_underlying hd], .str _, hK⟩
  · exact h.elim

/-- A field's place, aggregate or not, and its cells. -/
def fpA (P : Program) (s f : Nat) : Option (Nat × Bool × Nat) := match P.underlying s with
  | some (.struct fs) => match fs[f]? with
    | some x => match tyA P x.type with
      | some (g, n) => some (x.offset, g, n)
      | none => none
    | none => none
  | _ => none

def partA (off : Nat) (g : Bool) (n : Nat) (cs : List AV) (K : AV → Prop) : Prop := match g with
  | true => off + n ≤ cs.length ∧ K (.agg ((cs.drop off).take n))
  | false => ∃ v, cs[off]? = some v ∧ K v

theorem partA_ok {P : Program} {G : Gh} {w : World} {t off n : Nat} {g : Bool} {cs : List AV} {vs : List Value} {K : AV → Prop} (ht : tyA P t = some (g, n)) (h : partA off g n cs K)
    (hl : vs.length = cs.length) (ho : ∀ v ∈ vs, oneCell v = true) (hr : ∀ (i : Nat) (c : AV) (v : Value), cs[i]? = some c → vs[i]? = some v → RepA G w c v) :
    ∃ v u, (part t vs.toArray off).run P w = .ok u w ∧ RepA G w v u ∧ K v := by
  cases g with
  | true =>
    obtain ⟨hn, hK⟩ := h
    refine ⟨_, .agg ((vs.drop off).take n).toArray, ?_, .agg _ ((vs.drop off).take n) (by simp [hl]) (fun v hv => ho v (List.mem_of_mem_drop (List.mem_of_mem_take hv))) (fun i c v hc hv => ?_), hK⟩
    · simp only [part, Sem.run_bind, tyA_agg ht, Result.andThen_ok, if_true, tyA_size ht, Sem.run_pure]
      congr 2
      apply Array.ext'
      simp [List.extract_eq_take_drop]
    · by_cases hin : i < n
      · rw [List.getElem?_take_of_lt hin, List.getElem?_drop] at hc hv
        exact hr _ c v hc hv
      · rw [List.getElem?_eq_none (by simp; omega)] at hc; cases hc
  | false =>
    obtain ⟨v, hv, hK⟩ := h
    have hlt : off < vs.length := by rw [hl]; exact (List.getElem?_eq_some_iff.1 hv).1
    refine ⟨v, vs[off], ?_, hr off v _ hv (List.getElem?_eq_getElem hlt), hK⟩
    simp [part, tyA_agg ht, hlt]

def exFieldV (P : Program) (s : Nat) (a : AV) (f : Nat) (K : AV → Prop) : Prop := match a with
  | .agg cs => match fpA P s f with
    | some (off, g, n) => partA off g n cs K
    | none => False
  | _ => False

theorem exFieldV_ok {P : Program} {G : Gh} {w : World} {s f : Nat} {a : AV} {x : Value} {K : AV → Prop} (h : exFieldV P s a f K) (hx : RepA G w a x) :
    ∃ v u, (Instr.field s x f).run P w = .ok u w ∧ RepA G w v u ∧ K v := by
  unfold exFieldV at h
  split at h
  · rename_i cs
    split at h
    · rename_i off g n hf
      unfold fpA at hf
      split at hf
      · rename_i fs hu
        split at hf
        · rename_i fd hfd
          split at hf
          · rename_i g' n' ht
            cases hf
            cases hx with
            | agg _ vs hl ho hr =>
              obtain ⟨v, u, h1, h2, h3⟩ := partA_ok ht h hl ho hr
              exact ⟨v, u, by simp [Instr.field, run_underlying hu, hfd, asAgg, h1], h2, h3⟩
          · cases hf
        · cases hf
      · cases hf
    · exact h.elim
  · exact h.elim

/-- An array's length; its elements: aggregates or not, and their cells. -/
def avA (P : Program) (t : Nat) : Option (Nat × Bool × Nat) := match P.underlying t with
  | some (.array n e) => match tyA P e with
    | some (g, z) => some (n, g, z)
    | none => none
  | _ => none

def exIndexV (P : Program) (t : Nat) (a i : AV) (K : AV → Prop) : Prop := match a, i with
  | .agg cs, .int _ n => match avA P t with
    | some (len, g, z) => 0 ≤ n ∧ n < (len : Int) ∧ partA (n.toNat * z) g z cs K
    | none => False
  | .str s, .int _ n => strA P t = true ∧ 0 ≤ n ∧ ∃ c, s[n.toNat]? = some c ∧ K (.int .u8 (c.toNat : Int))
  | _, _ => False

theorem exIndexV_ok {P : Program} {G : Gh} {w : World} {t : Nat} {a i : AV} {x y : Value} {K : AV → Prop} (h : exIndexV P t a i K) (hx : RepA G w a x) (hy : RepA G w i y) :
    ∃ v u, (Instr.index t x y).run P w = .ok u w ∧ RepA G w v u ∧ K v := by
  unfold exIndexV at h
  split at h
  · rename_i cs k n
    split at h
    · rename_i len g z ha
      obtain ⟨h0, h1, hp⟩ := h
      unfold avA at ha
      split at ha
      · rename_i len' e hu
        split at ha
        · rename_i g' z' ht
          cases ha
          cases hy
          cases hx with
          | agg _ vs hl ho hr =>
            obtain ⟨v, u, h3, h4, h5⟩ := partA_ok ht hp hl ho hr
            exact ⟨v, u, by simp [Instr.index, run_underlying hu, asIntOf, h0, h1, tyA_size ht, h3], h4, h5⟩
        · cases ha
      · cases ha
    · exact h.elim
  · rename_i s k n
    obtain ⟨hs, h0, c, hc, hK⟩ := h
    have hu := strA_of hs
    cases hx; cases hy
    have hlt := (List.getElem?_eq_some_iff.1 hc)
    refine ⟨_, .int .u8 (c.toNat : Int), ?_, .int _ _, hK⟩
    have hb : (⟨s.toArray⟩ : ByteArray)[n.toNat]? = some c := by
      obtain ⟨h1, h2⟩ := hlt
      have h3 : n.toNat < (⟨s.toArray⟩ : ByteArray).size := by simpa [ByteArray.size] using h1
      rw [getElem?_pos (⟨s.toArray⟩ : ByteArray) n.toNat h3]
      show some (s.toArray[n.toNat]) = some c
      simp [h2]
    simp [Instr.index, run_underlying hu, asIntOf, h0, hb]
  · exact h.elim

def exLen (P : Program) (t : Nat) (a : AV) (K : AV → Prop) : Prop := match a with
  | .sl _ es _ => slA P t ≠ none ∧ K (.int .i64 (es.length : Int))
  | .msl _ _ len _ => slA P t ≠ none ∧ K (.int .i64 (len : Int))
  | .str s => strA P t = true ∧ K (.int .i64 (s.length : Int))
  | .agg _ => match arA P t with
    | some (n, _) => K (.int .i64 (n : Int))
    | none => False
  | _ => False

theorem exLen_ok {P : Program} {G : Gh} {w : World} {t ty : Nat} {a : AV} {x : Value} {K : AV → Prop} (h : exLen P t a K) (hx : RepA G w a x) :
    ∃ v u, (Builtin.len_ #[t] ty #[x]).run P w = .ok u w ∧ RepA G w v u ∧ K v := by
  unfold exLen at h
  split at h
  · obtain ⟨ht, hK⟩ := h
    cases hs : slA P t with
    | none => exact absurd hs ht
    | some z =>
      obtain ⟨e, i, hu, _, _⟩ := slA_of hs
      cases hx
      exact ⟨_, _, by simp [Builtin.len_, run_underlying hu, goInt], .int _ _, hK⟩
  · obtain ⟨ht, hK⟩ := h
    cases hs : slA P t with
    | none => exact absurd hs ht
    | some z =>
      obtain ⟨e, i, hu, _, _⟩ := slA_of hs
      cases hx
      exact ⟨_, _, by simp [Builtin.len_, run_underlying hu, goInt], .int _ _, hK⟩
  · obtain ⟨ht, hK⟩ := h
    have hu := strA_of ht
    cases hx
    exact ⟨_, _, by simp only [Builtin.len_]; simp [run_underlying hu, goInt]; rfl, .int _ _, hK⟩
  · split at h
    · rename_i n z ha
      obtain ⟨e, i, hu, _, _⟩ := arA_of ha
      cases hx
      exact ⟨_, _, by simp [Builtin.len_, run_underlying hu, goInt], .int _ _, h⟩
    · exact h.elim
  · exact h.elim

/-- The least and the greatest of whole numbers of one kind. -/
def mmA (mx : Bool) (k : IntKind) (x : Int) : List AV → (AV → Prop) → Prop
  | [], K => K (.int k x)
  | .int _ y :: r, K => mmA mx k (if mx then max x y else min x y) r K
  | _ :: _, _ => False

def exMM (mx : Bool) (as : List AV) (K : AV → Prop) : Prop := match as with
  | .int k x :: r => mmA mx k x r K
  | _ => False

theorem mmA_ok {P : Program} {G : Gh} {w : World} (mx : Bool) {k : IntKind} {K : AV → Prop} : ∀ (r : List AV) (x : Int) (vs : List Value), mmA mx k x r K → vs.length = r.length → (∀ (i : Nat) (c : AV) (v : Value), r[i]? = some c → vs[i]? = some v → RepA G w c v) →
    ∃ y, (vs.foldlM (if mx then Builtin.max2 else Builtin.min2) (.int k x)).run P w = .ok (.int k y) w ∧ K (.int k y)
  | [], x, vs, h, hl, _ => by
    cases vs with
    | nil => exact ⟨x, by simp, h⟩
    | cons _ _ => simp at hl
  | c :: r, x, vs, h, hl, hr => by
    cases vs with
    | nil => simp at hl
    | cons v vs =>
      have hc := hr 0 c v rfl rfl
      cases c with
      | int k' y =>
        cases hc
        obtain ⟨z, hz, hK⟩ := mmA_ok (P := P) mx r _ vs h (by simpa using hl) (fun i c v h1 h2 => hr (i + 1) c v h1 h2)
        refine ⟨z, ?_, hK⟩
        rw [List.foldlM_cons, Sem.run_bind]
        cases mx with
        | true =>
          have : (Builtin.max2 (.int k x) (.int k' y)).run P w = .ok (.int k (max x y)) w := by
            simp only [Builtin.max2, Sem.run_pure]
            congr 2
            split <;> omega
          simp only [if_true] at hz ⊢
          rw [this]; exact hz
        | false =>
          have : (Builtin.min2 (.int k x) (.int k' y)).run P w = .ok (.int k (min x y)) w := by
            simp only [Builtin.min2, Sem.run_pure]
            congr 2
            split <;> omega
          simp only [Bool.false_eq_true, if_false] at hz ⊢
          rw [this]; exact hz
      | _ => exact False.elim h

theorem exMM_ok {P : Program} {G : Gh} {w : World} {mx : Bool} {as : List AV} {vs : List Value} {K : AV → Prop} {ts : Array Nat} {ty : Nat} (h : exMM mx as K) (hl : vs.length = as.length)
    (hr : ∀ (i : Nat) (c : AV) (v : Value), as[i]? = some c → vs[i]? = some v → RepA G w c v) :
    ∃ v u, (if mx then Builtin.max_ ts ty vs.toArray else Builtin.min_ ts ty vs.toArray).run P w = .ok u w ∧ RepA G w v u ∧ K v := by
  unfold exMM at h
  split at h
  · rename_i k x r
    cases vs with
    | nil => simp at hl
    | cons v vs =>
      have hc := hr 0 _ v rfl rfl
      cases hc
      obtain ⟨y, hy, hK⟩ := mmA_ok (P := P) mx r x vs h (by simpa using hl) (fun i c v h1 h2 => hr (i + 1) c v h1 h2)
      refine ⟨_, _, ?_, .int _ _, hK⟩
      cases mx with
      | true => simpa [Builtin.max_] using hy
      | false => simpa [Builtin.min_] using hy
  · exact h.elim

/-- A bound of a cut: a whole number, or what stands for none. -/
def bndA (d : Nat) : Option AV → Option Nat
  | none => some d
  | some (.int _ n) => if 0 ≤ n then some n.toNat else none
  | _ => none

def exCut (P : Program) (t : Nat) (a : AV) (lo hi : Option AV) (K : AV → Prop) : Prop := match a with
  | .sl z es _ => match bndA 0 lo, bndA es.length hi with
    | some l, some h => slA P t = some z ∧ l ≤ h ∧ h ≤ es.length ∧ K (.sl z ((es.drop l).take (h - l)) .no)
    | _, _ => False
  | .str s => match bndA 0 lo, bndA s.length hi with
    | some l, some h => strA P t = true ∧ l ≤ h ∧ h ≤ s.length ∧ K (.str ((s.drop l).take (h - l)))
    | _, _ => False
  | .ptr b o => match arA P t with
    | some (n, z) => match bndA 0 lo, bndA n hi with
      | some l, some h => l ≤ h ∧ h ≤ n ∧ l < n ∧ n ≤ 16777216 ∧ K (.msl b (o + l * z) (h - l) (n - l))
      | _, _ => False
    | none => False
  | .msl b o len cap => match slA P t with
    | some z => match bndA 0 lo, bndA len hi with
      | some l, some h => l ≤ h ∧ h ≤ len ∧ len ≤ cap ∧ l < cap ∧ K (.msl b (o + l * z) (h - l) (cap - l))
      | _, _ => False
    | none => False
  | _ => False

theorem bndA_run {P : Program} {G : Gh} {w : World} {d n y : Nat} {b : Option AV} {x : Option Value} {code : BoundsCode} (h : bndA d b = some n) (hn : n ≤ y)
    (hr : (b = none ∧ x = none) ∨ ∃ c v, b = some c ∧ x = some v ∧ RepA G w c v) :
    (b = none ∧ x = none ∧ n = d) ∨ ∃ v, x = some v ∧ (Instr.sliceBound v y code).run P w = .ok n w := by
  rcases hr with ⟨rfl, rfl⟩ | ⟨c, v, rfl, rfl, hcv⟩
  · cases h; exact .inl ⟨rfl, rfl, rfl⟩
  · cases c with
    | int k m =>
      cases hcv
      simp only [bndA] at h
      split at h
      · rename_i h0
        cases h
        refine .inr ⟨_, rfl, ?_⟩
        have : m ≤ (y : Int) := by omega
        simp [Instr.sliceBound, asIntOf, h0, this]
      · cases h
    | _ => cases h

theorem bnds_run {P : Program} {G : Gh} {w : World} {isS : Bool} {len cap l h : Nat} {lo hi : Option AV} {lv hv : Option Value} (h1 : bndA 0 lo = some l) (h2 : bndA len hi = some h) (hlh : l ≤ h) (hh : h ≤ cap)
    (hlo : (lo = none ∧ lv = none) ∨ ∃ c v, lo = some c ∧ lv = some v ∧ RepA G w c v) (hhi : (hi = none ∧ hv = none) ∨ ∃ c v, hi = some c ∧ hv = some v ∧ RepA G w c v) :
    (Instr.sliceBounds isS len cap lv hv none).run P w = .ok (l, h, cap) w := by
  unfold Instr.sliceBounds
  rcases bndA_run (P := P) (y := cap) (code := if isS then .sliceAcap else .sliceAlen) h2 hh hhi with ⟨_, rfl, rfl⟩ | ⟨v, rfl, hv⟩
  · rcases bndA_run (P := P) (y := h) (code := .sliceB) h1 hlh hlo with ⟨_, rfl, rfl⟩ | ⟨u, rfl, hu⟩
    · simp
    · simp [hu]
  · rcases bndA_run (P := P) (y := h) (code := .sliceB) h1 hlh hlo with ⟨_, rfl, rfl⟩ | ⟨u, rfl, hu⟩
    · simp [hv]
    · simp [hv, hu]

theorem SlAt.cut {st : Nat → Nat → Prop} {w : World} {es : List DV} {b o c z l h : Nat} (hs : SlAt st w es (some ⟨b, o, none⟩) c z) (h1 : l ≤ h) (h2 : h ≤ es.length) :
    SlAt st w ((es.drop l).take (h - l)) (some (if c = l then ⟨b, o, none⟩ else ⟨b, o + l * z, none⟩)) (c - l) z := by
  obtain ⟨h3, h4, h5, h6⟩ := hs
  have get : ∀ i e, ((es.drop l).take (h - l))[i]? = some e → es[l + i]? = some e ∧ i < h - l := by
    intro i e hi
    by_cases hlt : i < h - l
    · rw [List.getElem?_take_of_lt hlt, List.getElem?_drop] at hi
      exact ⟨hi, hlt⟩
    · rw [List.getElem?_eq_none (by simp; omega)] at hi; cases hi
  refine ⟨by simp; omega, by omega, fun i e hi => h5 _ e (get i e hi).1, .inr ?_⟩
  rcases h6 with ⟨he, h0⟩ | ⟨b', o', hA, h6⟩
  · have hc : c = l := by rw [he] at h2; simp only [List.length_nil] at h2; omega
    refine ⟨b, o, by rw [if_pos hc], fun i e hi => ?_⟩
    have := (get i e hi).2
    omega
  · cases hA
    by_cases hc : c = l
    · refine ⟨b, o, by rw [if_pos hc], fun i e hi => ?_⟩
      have := (get i e hi).2
      omega
    · refine ⟨b, o + l * z, by rw [if_neg hc], fun i e hi j d hd => ?_⟩
      have := h6 _ e (get i e hi).1 j d hd
      have e1 : o + ((l + i) * z + j) = o + l * z + (i * z + j) := by rw [Nat.add_mul]; omega
      rwa [e1] at this

theorem exCut_ok {P : Program} {G : Gh} {w : World} {t : Nat} {a : AV} {x : Value} {lo hi : Option AV} {lv hv : Option Value} {K : AV → Prop} (h : exCut P t a lo hi K) (hx : RepA G w a x)
    (hlo : (lo = none ∧ lv = none) ∨ ∃ c v, lo = some c ∧ lv = some v ∧ RepA G w c v) (hhi : (hi = none ∧ hv = none) ∨ ∃ c v, hi = some c ∧ hv = some v ∧ RepA G w c v) :
    ∃ v u, (Instr.sliceAt t x lv hv none).run P w = .ok u w ∧ RepA G w v u ∧ K v := by
  unfold exCut at h
  split at h
  · rename_i z es tok
    split at h
    · rename_i l n hl hn
      obtain ⟨hz, h1, h2, hK⟩ := h
      obtain ⟨e, i, hu, hi', hz⟩ := slA_of hz
      cases hx with
      | sl _ _ _ A c hsl _ =>
        have hle := hsl.1
        have hb := bnds_run (P := P) (isS := true) (cap := c) hl hn h1 (by omega) hlo hhi
        have run : (Instr.sliceAt t (.slice A es.length c) lv hv none).run P w = .ok (.slice (if c = l then A else A.map (·.add (l * z))) (n - l) (c - l)) w := by
          simp [Instr.sliceAt, run_underlying hu, Instr.slice, hb, sizeOf, typeInfo, hi', hz]
        rcases hsl.2.2.2 with ⟨he, hc⟩ | ⟨b, o, rfl, _⟩
        · subst he hc
          simp only [List.length_nil] at h2
          have : n = 0 := by omega
          subst this
          have : l = 0 := by omega
          subst this
          refine ⟨_, _, run, ?_, hK⟩
          exact .sl z [] .no A 0 ⟨by simp, by simp [maxLen], by simp, .inl ⟨rfl, rfl⟩⟩ trivial
        · have hcut := hsl.cut h1 h2
          refine ⟨_, _, run, ?_, hK⟩
          have e1 : (if c = l then (some (⟨b, o, none⟩ : Addr)) else (some (⟨b, o, none⟩ : Addr)).map (·.add (l * z))) = some (if c = l then ⟨b, o, none⟩ else ⟨b, o + l * z, none⟩) := by
            split <;> simp [add_at]
          rw [e1]
          have := RepA.sl (G := G) (w := w) z _ .no _ _ hcut trivial
          have e2 : ((es.drop l).take (n - l)).length = n - l := by simp; omega
          rwa [e2] at this
    · exact h.elim
  · rename_i s
    split at h
    · rename_i l n hl hn
      obtain ⟨ht, h1, h2, hK⟩ := h
      have hu := strA_of ht
      cases hx
      have hb := bnds_run (P := P) (isS := false) (cap := s.length) hl hn h1 h2 hlo hhi
      refine ⟨_, .string ⟨((s.drop l).take (n - l)).toArray⟩, ?_, .str _, hK⟩
      have hsz : (⟨s.toArray⟩ : ByteArray).size = s.length := rfl
      have hex : (⟨s.toArray⟩ : ByteArray).extract l n = ⟨((s.drop l).take (n - l)).toArray⟩ := by
        apply ByteArray.ext
        rw [ByteArray.data_extract]
        apply Array.ext'
        simp [List.extract_eq_take_drop]
      simp only [Instr.sliceAt, Sem.run_bind, run_underlying hu, Result.andThen_ok, Instr.slice, Option.isSome_none, Bool.false_eq_true, if_false, hsz, hb, Sem.run_pure, hex]
    · exact h.elim
  · rename_i l o
    split at h
    · rename_i n z hz
      obtain ⟨e, i, hu, hi', hz⟩ := arA_of hz
      split at h
      · rename_i l' n' hl hn
        obtain ⟨h1, h2, h3, h4, hK⟩ := h
        cases hx with
        | ptr _ _ b o' hb' hmk =>
          have hb := bnds_run (P := P) (isS := false) (cap := n) hl hn h1 h2 hlo hhi
          refine ⟨_, .slice (some ⟨b, o' + (o + l' * z), none⟩) (n' - l') (n - l'), ?_,   .msl _ _ _ _ b o' hb' hmk (by omega) (by simp [maxLen]; omega), hK⟩
          have hne : ¬ n = l' := by omega
          simp [Instr.sliceAt, run_underlying hu, Instr.sureAddr, hb, sizeOf, typeInfo, hi', hz, hne, add_at, Nat.add_assoc]
      · exact h.elim
    · exact h.elim
  · rename_i l o len cap
    split at h
    · rename_i z hz
      obtain ⟨e, i, hu, hi', hz⟩ := slA_of hz
      split at h
      · rename_i l' n' hl hn
        obtain ⟨h1, h2, h3, h4, hK⟩ := h
        cases hx with
        | msl _ _ _ _ b o' hb' hmk q1 q2 =>
          have hb := bnds_run (P := P) (isS := true) (cap := cap) hl hn h1 (by omega) hlo hhi
          refine ⟨_, .slice (some ⟨b, o' + (o + l' * z), none⟩) (n' - l') (cap - l'), ?_,   .msl _ _ _ _ b o' hb' hmk (by omega) (by omega), hK⟩
          have hne : ¬ cap = l' := by omega
          simp [Instr.sliceAt, run_underlying hu, Instr.slice, hb, sizeOf, typeInfo, hi', hz, hne, add_at, Nat.add_assoc]
      · exact h.elim
    · exact h.elim
  · exact h.elim

end Go.AB
