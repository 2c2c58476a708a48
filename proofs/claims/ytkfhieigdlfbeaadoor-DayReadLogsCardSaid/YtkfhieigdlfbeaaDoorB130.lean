/- Arguments of a law as abstract data: what a type's cells are, out of what a row reads. -/
import Derived.Test.YtkfhieigdlfbeaaDoorB120
import Derived.WalkKit
import Derived.ProofKit
import Derived.OpenShut
import Derived.ShutString
import Derived.ChangeOld
import Derived.Below
import Derived.SizedLaws
namespace Go.AB
open Go.ChangeShapes Go.WideShapes Go.ChangeAt Go.RowKit

def isAggD : DV → Bool
  | .agg _ => true
  | _ => false

def aggT (P : Program) (t : Nat) : Bool := match P.underlying t with
  | some (.struct _) => true
  | some (.array _ _) => true
  | _ => false

mutual
/-- The cells of a type. -/
inductive TyD (P : Program) : Nat → List DV → Prop where
  | bool (t : Nat) (b : Bool) : P.underlying t = some .bool → TyD P t [.bool b]
  | int (t : Nat) (k : IntKind) (n : Int) : P.underlying t = some (.int k) → k.min ≤ n → n ≤ k.max → TyD P t [.int k n]
  | str (t : Nat) (s : List UInt8) : P.underlying t = some .string → s.length ≤ reachBytes → TyD P t [.str s]
  | sl (t e : Nat) (es : List DV) : P.underlying t = some (.slice e) → es.length * P.bytesOf e ≤ reachBytes → es.length ≤ maxLen → (∀ x, x ∈ es → TyD P e (dcells x)) → (∀ x, x ∈ es → isAggD x = aggT P e) → TyD P t [.sl (P.cellsOf e) es]
  | struct (t : Nat) (fs : Array Field) (cs : List DV) : P.underlying t = some (.struct fs) → TyDs P (fs.toList.map (·.type)) cs → TyD P t cs
/-- The cells of fields, one behind the other. -/
inductive TyDs (P : Program) : List Nat → List DV → Prop where
  | nil : TyDs P [] []
  | cons (t : Nat) (ts : List Nat) (c r : List DV) : TyD P t c → TyDs P ts r → TyDs P (t :: ts) (c ++ r)
end

/-- A value of a type. -/
def ElD (P : Program) (t : Nat) (x : DV) : Prop := TyD P t (dcells x) ∧ isAggD x = aggT P t

mutual
/-- How many values and letters a datum holds. -/
def bulkW {H : Type} : DataW H → Nat
  | .lit (.string bytes) => bytes.length + 1
  | .lit _ => 1
  | .nil => 1
  | .ptr d => bulkW d + 1
  | .slice elems spare => bulkWs elems + bulkWs spare + 1
  | .agg parts => bulkWs parts + 1
  | .iface _ d => bulkW d + 1
  | .map entries => bulkWe entries + 1
  | .held _ => 1
def bulkWs {H : Type} : List (DataW H) → Nat
  | [] => 0
  | d :: r => bulkW d + bulkWs r
def bulkWe {H : Type} : List (Lit × DataW H) → Nat
  | [] => 0
  | x :: r => bulkW1 x + bulkWe r
def bulkW1 {H : Type} : Lit × DataW H → Nat
  | (.string bytes, d) => bytes.length + bulkW d + 1
  | (_, d) => bulkW d + 1
end

mutual
def bulkD : DV → Nat
  | .int _ _ => 1
  | .bool _ => 1
  | .str s => s.length + 1
  | .raw _ => 1
  | .agg cs => bulkDs cs + 1
  | .sl _ es => bulkDs es + 1
def bulkDs : List DV → Nat
  | [] => 0
  | d :: r => bulkD d + bulkDs r
end
theorem bulkDs_app : ∀ (a b : List DV), bulkDs (a ++ b) = bulkDs a + bulkDs b
  | [], b => by simp [bulkDs]
  | d :: a, b => by simp [bulkDs, bulkDs_app a b, Nat.add_assoc]
theorem bulkWs_mem {H : Type} {d : DataW H} : ∀ {l : List (DataW H)}, d ∈ l → bulkW d ≤ bulkWs l
  | x :: r, h => by
    simp only [bulkWs]
    rcases List.mem_cons.1 h with rfl | h
    · omega
    · have := bulkWs_mem h; omega
theorem bulkD_pos (d : DV) : 1 ≤ bulkD d := by cases d <;> simp [bulkD]
theorem bulkDs_len : ∀ (l : List DV), l.length ≤ bulkDs l
  | [] => by simp
  | d :: r => by have := bulkD_pos d; have := bulkDs_len r; simp [bulkDs]; omega
/-- Lists of equal length, part by part. -/
theorem bulk_list {H : Type} {α : Type} {f : DataW H × α → Nat} : ∀ (ds : List DV) (xs : List (DataW H × α)), ds.length = xs.length → (∀ (i : Nat) (d : DV) (x : DataW H × α), ds[i]? = some d → xs[i]? = some x → bulkD d ≤ bulkW x.1) → bulkDs ds ≤ bulkWs (xs.map (·.1))
  | [], [], _, _ => by simp [bulkDs, bulkWs]
  | d :: ds, x :: xs, hl, h => by
    have h1 := h 0 d x rfl rfl
    have h2 := bulk_list (f := f) ds xs (by simpa using hl) (fun i d x hd hx => h (i + 1) d x hd hx)
    simp only [bulkDs, bulkWs, List.map_cons]; omega

def tilesB (P : Program) : List Field → Nat → Option Nat
  | [], o => some o
  | f :: r, o => if f.offset = o then tilesB P r (o + P.cellsOf f.type) else none

/-- Types of whole numbers, bools, strings, slices and structs. -/
def plainTy (P : Program) : Nat → Nat → Bool
  | 0, _ => false
  | n + 1, t => match P.underlying t with
    | some .bool => true
    | some (.int _) => true
    | some .string => true
    | some (.slice e) => plainTy P n e && decide (0 < P.cellsOf e)
    | some (.struct fs) => (fs.toList.all fun f => plainTy P n f.type) && (tilesB P fs.toList 0 == some (P.cellsOf t))
    | _ => false

theorem tilesB_le {P : Program} : ∀ (fl : List Field) (o tot : Nat), tilesB P fl o = some tot → o ≤ tot ∧ ∀ f ∈ fl, o ≤ f.offset ∧ f.offset + P.cellsOf f.type ≤ tot
  | [], o, tot, h => by cases h; exact ⟨Nat.le_refl _, by simp⟩
  | f :: r, o, tot, h => by
    unfold tilesB at h
    split at h
    · rename_i ho
      obtain ⟨h1, h2⟩ := tilesB_le r _ tot h
      refine ⟨by omega, fun g hg => ?_⟩
      rcases List.mem_cons.1 hg with rfl | hg
      · omega
      · have := h2 g hg; omega
    · cases h

theorem of_each {α : Type} {Q : Nat → α → Prop} : ∀ (n : Nat), (∀ i, i < n → ∃ x, Q i x) → ∃ xs : List α, xs.length = n ∧ ∀ i x, xs[i]? = some x → Q i x
  | 0, _ => ⟨[], rfl, by simp⟩
  | n + 1, h => by
    obtain ⟨xs, h1, h2⟩ := of_each n (fun i hi => h i (by omega))
    obtain ⟨x, hx⟩ := h n (by omega)
    refine ⟨xs ++ [x], by simp [h1], fun i y hy => ?_⟩
    by_cases hi : i < xs.length
    · rw [List.getElem?_append_left hi] at hy; exact h2 i y hy
    · rw [List.getElem?_append_right (by omega)] at hy
      have : i - xs.length = 0 := by
        have := (List.getElem?_eq_some_iff.1 hy).1
        simp at this; omega
      rw [this] at hy
      cases hy
      have : i = n := by omega
      subst this; exact hx

section
variable {H : Type} {enc : TypeId × Value → H} {P : Program} {w : World} {base : Nat} {held : Bool}

def Opened (P : Program) (w : World) (t : Nat) (cs : List Value) (n : Nat) (ds : List DV) : Prop :=
  bulkDs ds + (if aggT P t = true then 1 else 0) ≤ n ∧ ds.length = cs.length ∧ TyD P t ds ∧ ∀ (j : Nat) (d : DV) (v : Value), ds[j]? = some d → cs[j]? = some v → RepD (stAll w) w d v

theorem open_fields {cs : List Value} : ∀ (fl : List Field) (xs : List (DataW H × List MemPlace)) (o tot : Nat), tilesB P fl o = some tot → tot ≤ cs.length → xs.length = fl.length →
    (∀ (i : Nat) f x, fl[i]? = some f → xs[i]? = some x → ∃ ds, Opened P w f.type ((cs.drop f.offset).take (P.cellsOf f.type)) (bulkW x.1) ds) →
    ∃ ds, bulkDs ds ≤ bulkWs (xs.map (·.1)) ∧ o + ds.length = tot ∧ TyDs P (fl.map (·.type)) ds ∧ ∀ (j : Nat) (d : DV) (v : Value), ds[j]? = some d → cs[o + j]? = some v → RepD (stAll w) w d v
  | [], _, o, tot, ht, _, _, _ => by cases ht; exact ⟨[], by simp [bulkDs], rfl, .nil, by simp⟩
  | f :: r, [], o, tot, ht, hl, hxl, h => by simp at hxl
  | f :: r, x :: xs, o, tot, ht, hl, hxl, h => by
    have hle := (tilesB_le (f :: r) o tot ht).2 f (by simp)
    unfold tilesB at ht
    split at ht
    · rename_i ho
      subst ho
      obtain ⟨ds, h0', h1, h2, h3⟩ := h 0 f x rfl rfl
      have h0 : bulkDs ds ≤ bulkW x.1 := by omega
      obtain ⟨es, g0, g1, g2, g3⟩ := open_fields r xs _ tot ht hl (by simpa using hxl) (fun i g y hg hy => h (i + 1) g y hg hy)
      have hlen : ds.length = P.cellsOf f.type := by rw [h1]; simp; omega
      refine ⟨ds ++ es, by rw [bulkDs_app]; simp only [List.map_cons, bulkWs]; omega, by simp; omega, .cons _ _ _ _ h2 g2, fun j d v hd hv => ?_⟩
      by_cases hj : j < ds.length
      · rw [List.getElem?_append_left hj] at hd
        refine h3 j d v hd ?_
        rw [List.getElem?_take_of_lt (by omega), List.getElem?_drop]; exact hv
      · rw [List.getElem?_append_right (by omega)] at hd
        refine g3 (j - ds.length) d v hd ?_
        rw [← hv]; congr 1; omega
    · cases ht

theorem cells?_get {a : Addr} {n : Nat} {cs : List Value} (h : w.cells? base a n = some cs) : cs.length = n ∧ ∀ i, i < n → w.cell? (a.add i) = cs[i]? := by
  unfold World.cells? at h
  split at h
  · refine ⟨by simpa using mapM_some_length h, fun i hi => ?_⟩
    have := mapM_some_get h i i (by simp [hi])
    exact this
  · cases h

theorem open_trod : ∀ (m t n : Nat) (cs : List Value) (x : DataW H × List MemPlace), plainTy P m t = true → DataW.trod enc P w base (fun _ => true) held n t cs = some x → (∀ k ∈ x.1.weights P t, k ≤ reachBytes) → ∃ ds, Opened P w t cs (bulkW x.1) ds
  | 0, t, n, cs, x, hp, _, _ => by cases hp
  | m + 1, t, n, cs, x, hp, h, hw => by
    unfold plainTy at hp
    split at hp
    · rename_i hu
      obtain ⟨b, rfl, rfl⟩ := DataW.trod_bool hu h
      refine ⟨[.bool b], by simp [bulkDs, bulkD, bulkW, aggT, hu], rfl, .bool t b hu, fun j d v hd hv => ?_⟩
      cases j with
      | zero => cases hd; cases hv; exact .bool b
      | succ j => cases hd
    · rename_i k hu
      obtain ⟨z, rfl, rfl, hz⟩ := DataW.trod_int hu h
      simp only [Lit.wf, Bool.and_eq_true, decide_eq_true_eq] at hz
      refine ⟨[.int k z], by simp [bulkDs, bulkD, bulkW, aggT, hu], rfl, .int t k z hu hz.1 hz.2, fun j d v hd hv => ?_⟩
      cases j with
      | zero => cases hd; cases hv; exact .int k z
      | succ j => cases hd
    · rename_i hu
      obtain ⟨s, rfl, rfl, hs⟩ := DataW.trod_string hu h
      refine ⟨[.str s.data.toList], by simp [bulkDs, bulkD, bulkW, aggT, hu], rfl, .str t _ hu (hw _ (by simp [DataW.weights])), fun j d v hd hv => ?_⟩
      cases j with
      | zero =>
        cases hd; cases hv
        have : (⟨s.data.toList.toArray⟩ : ByteArray) = s := by cases s; simp
        have h := RepD.str (st := stAll w) (w := w) s.data.toList
        rwa [this] at h
      | succ j => cases hd
    · rename_i e hu
      simp only [Bool.and_eq_true, decide_eq_true_eq] at hp
      obtain ⟨hpe, hz⟩ := hp
      rcases DataW.trod_slice hu h with ⟨rfl, rfl⟩ | ⟨a, len, cap, elems, rest, n', rfl, rfl, rfl, hb, hl, hc, hel, hall, hsp, _⟩
      · refine ⟨[.sl (P.cellsOf e) []], by simp [bulkDs, bulkD, bulkW, aggT, hu], rfl, .sl t e [] hu (by simp) (by simp) (by simp) (by simp), fun j d v hd hv => ?_⟩
        cases j with
        | zero => cases hd; cases hv; exact .emp _ _
        | succ j => cases hd
      · obtain ⟨hrl, hrest⟩ := hsp rfl
        simp only [DataW.weights, hu] at hw
        have hw0 := hw _ (List.mem_cons_self ..)
        have hwe : ∀ (i : Nat) (y : DataW H × List MemPlace), elems[i]? = some y → ∀ k ∈ y.1.weights P e, k ≤ reachBytes := by
          intro i y hy k hk
          refine hw k (List.mem_cons_of_mem _ (List.mem_append_left _ ?_))
          have hm : y.1 ∈ elems.map (·.1) := List.mem_map.2 ⟨y, List.mem_of_getElem? hy, rfl⟩
          clear hw0 hw hall hel hrl hrest
          generalize elems.map (·.1) = l at hm
          induction l with
          | nil => cases hm
          | cons q l ih =>
            simp only [DataW.weightsAll, List.mem_append]
            rcases List.mem_cons.1 hm with rfl | hm
            · exact .inl hk
            · exact .inr (ih hm)
        have hspot : 0 < cap → a.spot = none := by
          intro h0
          have : ∃ y, w.cells? base (a.add 0) (P.cellsOf e) = some y := by
            by_cases hl0 : 0 < len
            · have := hall 0 hl0
              rw [Nat.zero_mul] at this
              have hlt : 0 < elems.length := by omega
              rw [List.getElem?_eq_getElem hlt, Option.bind_eq_some_iff] at this
              exact ⟨_, this.choose_spec.1⟩
            · have := hrest 0 (by omega)
              have hlt : 0 < rest.length := by omega
              rw [List.getElem?_eq_getElem hlt, Option.bind_eq_some_iff] at this
              obtain ⟨y, hy, _⟩ := this
              have e0 : (len + 0) * P.cellsOf e = 0 := by have : len = 0 := by omega
                                                          simp [this]
              rw [e0] at hy
              exact ⟨y, hy⟩
          obtain ⟨y, hy⟩ := this
          obtain ⟨y1, y2⟩ := cells?_get hy
          have := y2 0 hz
          rw [List.getElem?_eq_getElem (by omega)] at this
          cases hs : a.spot with
          | none => rfl
          | some q =>
            exfalso
            simp only [Addr.add, World.cell?, hs] at this
            split at this <;> simp_all
        obtain ⟨es, el, eq⟩ := of_each (α := DV) (Q := fun i d => (∀ y, elems[i]? = some y → bulkD d ≤ bulkW y.1) ∧ ElD P e d ∧ (dcells d).length = P.cellsOf e ∧ ∀ (j : Nat) (dd : DV), (dcells d)[j]? = some dd → ∃ v, w.cell? ⟨a.block, a.off + (i * P.cellsOf e + j), none⟩ = some v ∧ RepD (stAll w) w dd v) len (fun i hi => by
          have h1 := hall i hi
          have hlt : i < elems.length := by omega
          have hy := List.getElem?_eq_getElem hlt
          rw [hy, Option.bind_eq_some_iff] at h1
          obtain ⟨cs', h2, h3⟩ := h1
          obtain ⟨ds, o0, o1, o2, o3⟩ := open_trod m e n' cs' _ hpe h3 (hwe i _ hy)
          obtain ⟨c1, c2⟩ := cells?_get h2
          have hsp := hspot (by omega)
          have key : ∀ (j : Nat) (dd : DV), ds[j]? = some dd → ∃ v, w.cell? ⟨a.block, a.off + (i * P.cellsOf e + j), none⟩ = some v ∧ RepD (stAll w) w dd v := by
            intro j dd hj
            have hjl : j < cs'.length := by rw [← o1]; exact (List.getElem?_eq_some_iff.1 hj).1
            have := c2 j (by omega)
            rw [List.getElem?_eq_getElem hjl] at this
            refine ⟨_, ?_, o3 j dd _ hj (List.getElem?_eq_getElem hjl)⟩
            rw [← this]
            obtain ⟨ab, ao, as⟩ := a
            cases hsp
            rw [add_at, add_at, Nat.add_assoc]
          by_cases hag : aggT P e = true
          · exact ⟨.agg ds, fun y hy' => by (rw [hy] at hy'; cases hy'; rw [if_pos hag] at o0; simpa only [bulkD] using o0), ⟨o2, by simp [isAggD, hag]⟩, by rw [← c1, ← o1]; rfl, key⟩
          · have hag : aggT P e = false := by simpa using hag
            have hone : ∃ d, ds = [d] ∧ isAggD d = false := by
              cases o2 with
              | bool => exact ⟨_, rfl, rfl⟩
              | int => exact ⟨_, rfl, rfl⟩
              | str => exact ⟨_, rfl, rfl⟩
              | sl => exact ⟨_, rfl, rfl⟩
              | struct _ fs _ hu' _ => simp [aggT, hu'] at hag
            obtain ⟨d, rfl, hd⟩ := hone
            have hdc : dcells d = [d] := by cases d <;> first | rfl | cases hd
            exact ⟨d, fun y hy' => by (rw [hy] at hy'; cases hy'; rw [if_neg (by rw [hag]; exact Bool.false_ne_true)] at o0; simpa only [bulkDs, Nat.add_zero] using o0), ⟨by rw [hdc]; exact o2, by rw [hd, hag]⟩, by rw [hdc, ← c1, ← o1], by rw [hdc]; exact key⟩)
        have hmem : ∀ x, x ∈ es → ElD P e x := fun x hx => by
          obtain ⟨i, hi⟩ := List.getElem?_of_mem hx
          exact (eq i x hi).2.1
        have hbulk : bulkDs es ≤ bulkWs (elems.map (·.1)) := bulk_list (f := fun _ => 0) es elems (by omega) (fun i d x hd hx => (eq i d hd).1 x hx)
        refine ⟨[.sl (P.cellsOf e) es], by simp [bulkDs, bulkD, bulkW, aggT, hu]; omega, rfl, .sl t e es hu ?_ (by omega) (fun x hx => (hmem x hx).1) (fun x hx => (hmem x hx).2), fun j d v hd hv => ?_⟩
        · refine Nat.le_trans (Nat.mul_le_mul_right _ ?_) hw0
          simp; omega
        · cases j with
          | zero =>
            cases hd; cases hv
            by_cases hcap : cap = 0
            · subst hcap
              have : es = [] := List.length_eq_zero_iff.1 (by omega)
              subst this
              have : len = 0 := by omega
              subst this
              exact .emp _ _
            · have hsp := hspot (by omega)
              obtain ⟨ab, ao, as⟩ := a
              cases hsp
              rw [← el]
              refine .sl _ es ab ao cap (fun i j => (w.cell? ⟨ab, ao + (i * P.cellsOf e + j), none⟩).getD undef) (by omega) hc (fun i d hd => (eq i d hd).2.2.1) (fun i d hd j dd hj => ?_) (fun i d hd j dd hj => ?_)
              · obtain ⟨v, v1, v2⟩ := (eq i d hd).2.2.2 j dd hj
                refine ⟨?_, by rw [v1]; rfl⟩
                unfold World.cell? at v1
                split at v1
                · rename_i c _ _ hb
                  exact (Array.getElem?_eq_some_iff.1 hb).1
                · cases v1
              · obtain ⟨v, v1, v2⟩ := (eq i d hd).2.2.2 j dd hj
                rw [v1]; exact v2
          | succ j => cases hd
    · rename_i fs hu
      simp only [Bool.and_eq_true, beq_iff_eq] at hp
      obtain ⟨hpf, ht⟩ := hp
      obtain ⟨xs, n', rfl, rfl, hl, hlen, hat⟩ := DataW.trod_struct hu h
      obtain ⟨ds, d0, d1, d2, d3⟩ := open_fields (w := w) (cs := cs) fs.toList xs 0 _ ht (by omega) (by simpa using hlen) (fun i f x hi hx => by
        have hi' : fs[i]? = some f := by simpa using hi
        have h1 := hat i f hi'
        rw [hx] at h1
        refine open_trod m f.type n' _ _ (List.all_eq_true.1 hpf f (List.mem_of_getElem? hi)) h1 (fun k hk => hw k ?_)
        simp only [DataW.weights, hu]
        exact DataW.weights_mem_each (j := i) (t := f.type) (d := x.1) (by rw [List.getElem?_map, hi]; rfl) (by rw [List.getElem?_map, hx]; rfl) k hk)
      exact ⟨ds, by simp only [bulkW, aggT, hu, if_true]; omega, by omega, .struct t fs ds hu d2, fun j d v hd hv => d3 j d v hd (by rw [Nat.zero_add]; exact hv)⟩
    · cases hp

theorem open_arg {m t : Nat} {v : Value} {d : DataW H} {ps : List MemPlace} {r : Reach} {b0 : Nat} (hp : plainTy P m t = true) (hok : Value.okWide P w r b0 t v) (h : DataW.Trod enc P w base (fun _ => true) held t v d ps) (hw : ∀ k ∈ d.weights P t, k ≤ reachBytes) :
    ∃ x : DV, bulkD x ≤ bulkW d ∧ ElD P t x ∧ RepA (gh0 (stAll w)) w (toAV x) v := by
  obtain ⟨fuel, hf⟩ := h
  obtain ⟨ds, o0, o1, o2, o3⟩ := open_trod m t fuel _ _ hp hf hw
  have hone : ∀ d0, ds = [d0] → isAggD d0 = false → aggT P t = false → v.cells.toList = [v] → ∃ x : DV, bulkD x ≤ bulkW d ∧ ElD P t x ∧ RepA (gh0 (stAll w)) w (toAV x) v := by
    rintro d' rfl hd hag hv
    have hdc : dcells d' = [d'] := by cases d' <;> first | rfl | cases hd
    rw [hag] at o0
    exact ⟨d', by simpa [bulkDs] using o0, ⟨by rw [hdc]; exact o2, by rw [hd, hag]⟩, RepD.toA (o3 0 d' v rfl (by rw [hv]; rfl))⟩
  cases o2 with
  | bool _ b hu => obtain ⟨_, rfl⟩ := okWide_bool hu hok; exact hone _ rfl rfl (by simp [aggT, hu]) rfl
  | int _ k z hu _ _ => obtain ⟨_, rfl⟩ := okWide_int hu hok; exact hone _ rfl rfl (by simp [aggT, hu]) rfl
  | str _ s hu _ => obtain ⟨_, rfl⟩ := okWide_string hu hok; exact hone _ rfl rfl (by simp [aggT, hu]) rfl
  | sl _ e es hu _ _ _ _ => obtain ⟨_, _, _, rfl⟩ := okWide_slice hu hok; exact hone _ rfl rfl (by simp [aggT, hu]) rfl
  | struct _ fs _ hu hd =>
    obtain ⟨cs, rfl, hsz⟩ := okWide_struct hu hok
    have hag : aggT P t = true := by simp [aggT, hu]
    rw [if_pos hag] at o0
    refine ⟨.agg ds, by simpa only [bulkD] using o0, ⟨.struct t fs ds hu hd, by simp [isAggD, aggT, hu]⟩, ?_⟩
    have hc : (Value.agg cs).cells.toList = cs.toList := rfl
    rw [hc] at o1 o3
    have hl := toAVs_length ds
    have hrep : ∀ (i : Nat) (c : AV) (v : Value), (toAVs ds)[i]? = some c → cs.toList[i]? = some v → RepA (gh0 (stAll w)) w c v := by
      intro i c v hcv hv
      rw [toAVs_get] at hcv
      cases hd : ds[i]? with
      | none => rw [hd] at hcv; cases hcv
      | some d =>
        rw [hd] at hcv
        cases hcv
        exact RepD.toA (o3 i d v hd hv)
    have := RepA.agg (G := gh0 (stAll w)) (w := w) (toAVs ds) cs.toList (by rw [hl, o1]) (fun v hv => by
      obtain ⟨i, hi⟩ := List.getElem?_of_mem hv
      have hil : i < ds.length := by rw [o1]; exact (List.getElem?_eq_some_iff.1 hi).1
      exact (o3 i _ v (List.getElem?_eq_getElem hil) hi).one) hrep
    simpa only [toAV, Array.toArray_toList] using this

/-- Values of types, one by one. -/
inductive ElDs (P : Program) : List Nat → List DV → Prop where
  | nil : ElDs P [] []
  | cons (t : Nat) (ts : List Nat) (x : DV) (xs : List DV) : ElD P t x → ElDs P ts xs → ElDs P (t :: ts) (x :: xs)

theorem open_args {m : Nat} {r : Reach} {b0 : Nat} : ∀ (ts : List Nat) (vs : List Value) (ds : List (DataW H)) (ps : List MemPlace), (ts.all (plainTy P m) = true) → (∀ (j : Nat) (t : Nat) (v : Value), ts[j]? = some t → vs[j]? = some v → Value.okWide P w r b0 t v) →
    DataW.TrodAll enc P w base (fun _ => true) held ts vs ds ps → (∀ k ∈ DataW.weightsEach P ts ds, k ≤ reachBytes) → ∃ xs, bulkDs xs ≤ bulkWs ds ∧ ElDs P ts xs ∧ RepArgs (gh0 (stAll w)) w (xs.map toAV) vs
  | [], vs, ds, ps, _, _, h, _ => by
    obtain ⟨rfl, rfl, rfl⟩ := trodAll_nil h
    exact ⟨[], by simp [bulkDs], .nil, rfl, by simp⟩
  | t :: ts, vs, ds, ps, hp, hok, h, hw => by
    obtain ⟨v, vs', d, ds', p, q, rfl, rfl, rfl, h1, h2⟩ := trodAll_cons h
    simp only [List.all_cons, Bool.and_eq_true] at hp
    simp only [DataW.weightsEach, List.mem_append] at hw
    obtain ⟨x, b1, e1, e2⟩ := open_arg hp.1 (hok 0 t v rfl rfl) h1 (fun k hk => hw k (.inl hk))
    obtain ⟨xs, b2, e3, e4, e5⟩ := open_args ts vs' ds' q hp.2 (fun j t v ht hv => hok (j + 1) t v ht hv) h2 (fun k hk => hw k (.inr hk))
    refine ⟨x :: xs, by simp only [bulkDs, bulkWs]; omega, .cons _ _ _ _ e1 e3, by simpa using e4, fun i a v ha hv => ?_⟩
    cases i with
    | zero => cases ha; cases hv; exact e2
    | succ i => exact e5 i a v ha hv

/-- Arguments read after a call that wrote nothing old as they did before. -/
theorem args_stay (hl : laidOutB P = true) {w' : World} (hb : Below w.heap.size w w') : ∀ (ts : List Nat) (vs : List Value) (ds : List (DataW H)) (ps : List MemPlace), (ts.all fun t => P.readableRec t && decide (t < P.types.size)) = true →
    DataW.TrodAll enc P w 0 (fun _ => true) true ts vs ds ps → DataW.TrodAll enc P w' 0 (fun b => decide (b < w.heap.size)) true ts vs ds ps
  | [], vs, ds, ps, _, h => by
    obtain ⟨rfl, rfl, rfl⟩ := trodAll_nil h
    exact trodAll_mk0
  | t :: ts, vs, ds, ps, hr, h => by
    obtain ⟨v, vs', d, ds', p, q, rfl, rfl, rfl, h1, h2⟩ := trodAll_cons h
    simp only [List.all_cons, Bool.and_eq_true, decide_eq_true_eq] at hr
    have k1 := h1
    have lt : ∀ x ∈ p, x.block < w.heap.size := by obtain ⟨m, hm⟩ := k1; exact DataW.trod_lt m _ _ _ hm
    exact trodAll_cons_mk (Below.trod hl hr.1.1 hr.1.2 h1 hb lt) (args_stay hl hb ts vs' ds' q hr.2 h2)
end

theorem below_of {st : Nat → Nat → Prop} {w w' : World} {G : Gh} {m : AH} (h : Inv ⟨w, fun _ => False, gh0 st, none, [], []⟩ G m w') : Below w.heap.size w w' :=
  ⟨h.kept.os, h.kept.tape, h.kept.output, h.kept.size, fun k hk => h.kept.block k hk (fun x => x)⟩

section
variable {P : Program} {t : Nat} {x : DV} {cs : List DV}
theorem ElDs.cons_inv {ts : List Nat} {xs : List DV} (h : ElDs P (t :: ts) xs) : ∃ x ys, xs = x :: ys ∧ ElD P t x ∧ ElDs P ts ys := by
  cases h with
  | cons _ _ x ys h1 h2 => exact ⟨x, ys, rfl, h1, h2⟩
theorem ElDs.nil_inv {xs : List DV} (h : ElDs P [] xs) : xs = [] := by cases h; rfl

theorem TyD.one (h : TyD P t cs) (ha : aggT P t = false) : ∃ x, cs = [x] ∧ ElD P t x := by
  have hd : ∀ x, cs = [x] → isAggD x = false → ∃ x, cs = [x] ∧ ElD P t x := by
    rintro x rfl hx
    have hdc : dcells x = [x] := by cases x <;> first | rfl | cases hx
    exact ⟨x, rfl, by rw [ElD, hdc]; exact ⟨h, by rw [hx, ha]⟩⟩
  cases h with
  | bool => exact hd _ rfl rfl
  | int => exact hd _ rfl rfl
  | str => exact hd _ rfl rfl
  | sl => exact hd _ rfl rfl
  | struct _ fs _ hu _ => simp [aggT, hu] at ha

theorem ElD.cells1 (h : ElD P t x) (ha : aggT P t = false) : TyD P t [x] := by
  obtain ⟨h1, h2⟩ := h
  rw [ha] at h2
  have hdc : dcells x = [x] := by cases x <;> first | rfl | cases h2
  rwa [hdc] at h1

theorem TyD.int_inv {k : IntKind} (hu : P.underlying t = some (.int k)) (h : TyD P t cs) : ∃ n, cs = [.int k n] ∧ k.min ≤ n ∧ n ≤ k.max := by
  cases h with
  | int _ k' n hu' h1 h2 => rw [hu] at hu'; cases hu'; exact ⟨n, rfl, h1, h2⟩
  | bool _ _ hu' => rw [hu] at hu'; cases hu'
  | str _ _ hu' => rw [hu] at hu'; cases hu'
  | sl _ _ _ hu' => rw [hu] at hu'; cases hu'
  | struct _ _ _ hu' => rw [hu] at hu'; cases hu'
theorem TyD.bool_inv (hu : P.underlying t = some .bool) (h : TyD P t cs) : ∃ b, cs = [.bool b] := by
  cases h with
  | bool _ b hu' => exact ⟨b, rfl⟩
  | int _ _ _ hu' => rw [hu] at hu'; cases hu'
  | str _ _ hu' => rw [hu] at hu'; cases hu'
  | sl _ _ _ hu' => rw [hu] at hu'; cases hu'
  | struct _ _ _ hu' => rw [hu] at hu'; cases hu'
theorem TyD.str_inv (hu : P.underlying t = some .string) (h : TyD P t cs) : ∃ s, cs = [.str s] ∧ s.length ≤ 140737488351232 := by
  cases h with
  | str _ s hu' h1 => exact ⟨s, rfl, h1⟩
  | bool _ b hu' => rw [hu] at hu'; cases hu'
  | int _ _ _ hu' => rw [hu] at hu'; cases hu'
  | sl _ _ _ hu' => rw [hu] at hu'; cases hu'
  | struct _ _ _ hu' => rw [hu] at hu'; cases hu'
theorem TyD.sl_inv {e z y : Nat} (hu : P.underlying t = some (.slice e)) (hz : P.cellsOf e = z) (hy : P.bytesOf e = y) (h : TyD P t cs) : ∃ es, cs = [.sl z es] ∧ es.length * y ≤ 140737488351232 ∧ ∀ x ∈ es, ElD P e x := by
  subst hz hy
  cases h with
  | sl _ _ es hu' h1 _ h3 h4 => rw [hu] at hu'; cases hu'; exact ⟨es, rfl, h1, fun x hx => ⟨h3 x hx, h4 x hx⟩⟩
  | bool _ b hu' => rw [hu] at hu'; cases hu'
  | int _ _ _ hu' => rw [hu] at hu'; cases hu'
  | str _ _ hu' => rw [hu] at hu'; cases hu'
  | struct _ _ _ hu' => rw [hu] at hu'; cases hu'
theorem TyD.struct_inv {fs : Array Field} {ts : List Nat} (hu : P.underlying t = some (.struct fs)) (hts : fs.toList.map (·.type) = ts) (h : TyD P t cs) : TyDs P ts cs := by
  subst hts
  cases h with
  | struct _ _ _ hu' h1 => rw [hu] at hu'; cases hu'; exact h1
  | bool _ b hu' => rw [hu] at hu'; cases hu'
  | int _ _ _ hu' => rw [hu] at hu'; cases hu'
  | str _ _ hu' => rw [hu] at hu'; cases hu'
  | sl _ _ _ hu' => rw [hu] at hu'; cases hu'
theorem TyDs.cons_inv {ts : List Nat} (h : TyDs P (t :: ts) cs) : ∃ c r, cs = c ++ r ∧ TyD P t c ∧ TyDs P ts r := by
  cases h with
  | cons _ _ c r h1 h2 => exact ⟨c, r, rfl, h1, h2⟩
theorem TyDs.nil_inv (h : TyDs P [] cs) : cs = [] := by cases h; rfl
theorem ElD.agg_inv {fs : Array Field} {ts : List Nat} (hu : P.underlying t = some (.struct fs)) (hts : fs.toList.map (·.type) = ts) (h : ElD P t x) : ∃ cs, x = .agg cs ∧ TyDs P ts cs := by
  obtain ⟨h1, h2⟩ := h
  have ha : aggT P t = true := by simp [aggT, hu]
  rw [ha] at h2
  cases x with
  | agg cs => exact ⟨cs, rfl, h1.struct_inv hu hts⟩
  | _ => cases h2
theorem not_agg_int {k : IntKind} (hu : P.underlying t = some (.int k)) : aggT P t = false := by simp [aggT, hu]
theorem ElD.int_inv {k : IntKind} (hu : P.underlying t = some (.int k)) (h : ElD P t x) : ∃ n, x = .int k n ∧ k.min ≤ n ∧ n ≤ k.max := by
  obtain ⟨n, h1, h2⟩ := (h.cells1 (by simp [aggT, hu])).int_inv hu
  cases h1; exact ⟨n, rfl, h2⟩
theorem ElD.bool_inv (hu : P.underlying t = some .bool) (h : ElD P t x) : ∃ b, x = .bool b := by
  obtain ⟨n, h1⟩ := (h.cells1 (by simp [aggT, hu])).bool_inv hu
  cases h1; exact ⟨n, rfl⟩
theorem ElD.str_inv (hu : P.underlying t = some .string) (h : ElD P t x) : ∃ s, x = .str s ∧ s.length ≤ 140737488351232 := by
  obtain ⟨n, h1, h2⟩ := (h.cells1 (by simp [aggT, hu])).str_inv hu
  cases h1; exact ⟨n, rfl, h2⟩
theorem ElD.sl_inv {e z y : Nat} (hu : P.underlying t = some (.slice e)) (hz : P.cellsOf e = z) (hy : P.bytesOf e = y) (h : ElD P t x) : ∃ es, x = .sl z es ∧ es.length * y ≤ 140737488351232 ∧ ∀ x ∈ es, ElD P e x := by
  obtain ⟨n, h1, h2⟩ := (h.cells1 (by simp [aggT, hu])).sl_inv hu hz hy
  cases h1; exact ⟨n, rfl, h2⟩
end

/-- Elements of one shape. -/
theorem map_of_each {α : Type} {f : α → DV} {p : α → Prop} : ∀ (es : List DV), (∀ x ∈ es, ∃ a, x = f a ∧ p a) → ∃ as : List α, es = as.map f ∧ ∀ a ∈ as, p a
  | [], _ => ⟨[], rfl, by simp⟩
  | x :: es, h => by
    obtain ⟨a, ha, hp⟩ := h x (by simp)
    obtain ⟨as, h1, h2⟩ := map_of_each es (fun y hy => h y (by simp [hy]))
    refine ⟨a :: as, by simp [ha, h1], fun b hb => ?_⟩
    rcases List.mem_cons.1 hb with rfl | hb
    · exact hp
    · exact h2 b hb

/-- How many whole numbers a type is made of, if of nothing else. -/
def leafI (P : Program) : Nat → Nat → Option Nat
  | 0, _ => none
  | m + 1, t => match P.underlying t with
    | some (.int .i64) => some 1
    | some (.struct fs) => leafIs (leafI P m) (fs.toList.map (·.type))
    | _ => none
where leafIs (f : Nat → Option Nat) : List Nat → Option Nat
  | [] => some 0
  | t :: ts => match f t, leafIs f ts with
    | some a, some b => some (a + b)
    | _, _ => none

def inR (n : Int) : Prop := -9223372036854775808 ≤ n ∧ n ≤ 9223372036854775807

theorem TyDs.ints {P : Program} {f : Nat → Option Nat} (hf : ∀ t n cs, f t = some n → TyD P t cs → ∃ ns : List Int, ns.length = n ∧ cs = ns.map (DV.int .i64) ∧ ∀ x ∈ ns, inR x) :
    ∀ (ts : List Nat) (n : Nat) (cs : List DV), leafI.leafIs f ts = some n → TyDs P ts cs → ∃ ns : List Int, ns.length = n ∧ cs = ns.map (DV.int .i64) ∧ ∀ x ∈ ns, inR x
  | [], n, cs, h, hc => by cases h; exact ⟨[], rfl, hc.nil_inv, by simp⟩
  | t :: ts, n, cs, h, hc => by
    unfold leafI.leafIs at h
    split at h
    · rename_i a b ha hb
      cases h
      obtain ⟨c, r, rfl, h1, h2⟩ := hc.cons_inv
      obtain ⟨ns, n1, n2, n3⟩ := hf t a c ha h1
      obtain ⟨ms, m1, m2, m3⟩ := TyDs.ints hf ts b r hb h2
      refine ⟨ns ++ ms, by simp [n1, m1], by simp [n2, m2], fun x hx => ?_⟩
      rcases List.mem_append.1 hx with hx | hx
      · exact n3 x hx
      · exact m3 x hx
    · cases h

theorem TyD.ints {P : Program} : ∀ (m t n : Nat) (cs : List DV), leafI P m t = some n → TyD P t cs → ∃ ns : List Int, ns.length = n ∧ cs = ns.map (DV.int .i64) ∧ ∀ x ∈ ns, inR x
  | 0, t, n, cs, h, _ => by cases h
  | m + 1, t, n, cs, h, hc => by
    unfold leafI at h
    split at h
    · rename_i hu
      cases h
      obtain ⟨z, rfl, h1, h2⟩ := hc.int_inv hu
      exact ⟨[z], rfl, rfl, by simp only [List.mem_singleton, forall_eq]; exact ⟨h1, h2⟩⟩
    · rename_i fs hu
      exact TyDs.ints (fun t n cs h hc => TyD.ints m t n cs h hc) _ n cs h (hc.struct_inv hu rfl)
    · cases h

theorem ElD.ints {P : Program} (m : Nat) {t n : Nat} {x : DV} (hn : leafI P m t = some n) (ha : aggT P t = true) (h : ElD P t x) : ∃ ns : List Int, ns.length = n ∧ x = .agg (ns.map (DV.int .i64)) ∧ ∀ x ∈ ns, inR x := by
  obtain ⟨h1, h2⟩ := h
  rw [ha] at h2
  cases x with
  | agg cs =>
    obtain ⟨ns, g1, g2, g3⟩ := TyD.ints m t n cs hn h1
    exact ⟨ns, g1, by rw [g2], g3⟩
  | _ => cases h2

theorem weights_app {H : Type} {P : Program} {ts' : List Nat} {ds' : List (DataW H)} : ∀ (ts : List Nat) (ds : List (DataW H)), ts.length = ds.length → ∀ k ∈ DataW.weightsEach P ts ds, k ∈ DataW.weightsEach P (ts ++ ts') (ds ++ ds')
  | [], ds, _, k, hk => by simp [DataW.weightsEach] at hk
  | t :: ts, [], _, k, hk => by simp [DataW.weightsEach] at hk
  | t :: ts, d :: ds, hl, k, hk => by
    simp only [DataW.weightsEach, List.mem_append, List.cons_append] at hk ⊢
    rcases hk with hk | hk
    · exact .inl hk
    · exact .inr (weights_app ts ds (by simpa using hl) k hk)

theorem trodAll_len {H : Type} {enc : TypeId × Value → H} {P : Program} {w : World} {base : Nat} {sp : Nat → Bool} {held : Bool} : ∀ (ts : List Nat) (vs : List Value) (ds : List (DataW H)) (ps : List MemPlace), DataW.TrodAll enc P w base sp held ts vs ds ps → ts.length = ds.length
  | [], vs, ds, ps, h => by obtain ⟨_, rfl, _⟩ := trodAll_nil h; rfl
  | t :: ts, vs, ds, ps, h => by
    obtain ⟨v, vs', d, ds', p, q, rfl, rfl, rfl, _, h2⟩ := trodAll_cons h
    simp [trodAll_len ts vs' ds' q h2]

/-- A call that reads all its arguments and answers true. -/
theorem PCall.run {P : Program} {f : Nat} {xs : List DV} {w : World} {vs : List Value} (h : PCall P f (xs.map toAV) (RV (.bool true))) (hl : Laid P w) (hr : RepArgs (gh0 (stAll w)) w (xs.map toAV) vs) :
    Calls P f vs.toArray w fun e w' => e = .returned (.bool true) ∧ Below w.heap.size w w' := by
  unfold PCall at h
  refine (h (stAll w) w vs hl (fun _ _ x => x) hr).mono ?_
  rintro e w' ⟨v, r, G', m', rfl, g1, g2, _, rfl⟩
  cases g2
  exact ⟨rfl, below_of g1⟩

end Go.AB

/- Loops round by round; numbers that are known. -/
namespace Go.AB

/-- A loop from a round's head on. -/
def LW (P : Program) (E : Env) (c : Code) (Q : Exit → AS → Prop) (σ : AS) : Prop :=
  TabsOk P E → ∀ A a w, Sub A E → St A σ a w → LoopAt P E.rd c (Lift E Q) a w

theorem LW_start {P : Program} {E : Env} {c : Code} {Q : Exit → AS → Prop} {σ : AS} (h : LW P E c Q σ) : AW P E (.loop c) Q σ := by
  unfold AW
  intro hT A a w hs hst
  exact (h hT A a w hs hst).start

theorem LW_round {P : Program} {E : Env} {c : Code} {Q : Exit → AS → Prop} {σ : AS} (h : exC P E c σ (thenQ (LW P E c Q) Q)) : LW P E c Q σ := by
  intro hT A a w hs hst
  have h := exC_ok c σ _ h
  unfold AW at h
  refine LoopAt.round (wpIn_mono (h hT A a w hs hst) ?_)
  rintro e a1 w1 ⟨A1, σ1, hs1, hst1, hq⟩
  cases e with
  | normal => exact hq hT A1 a1 w1 hs1 hst1
  | _ => exact ⟨A1, σ1, hs1, hst1, hq⟩

@[congr] theorem LW_congr {P : Program} {E : Env} {c : Code} {σ σ' : AS} {Q : Exit → AS → Prop} (h : σ = σ') : LW P E c Q σ = LW P E c Q σ' := by rw [h]
attribute [irreducible] LW

@[go_sem] theorem cast_lit (n : Nat) : ((no_index (OfNat.ofNat n) : Nat) : Int) = (OfNat.ofNat n : Int) := (rfl)

attribute [go_sem] Bool.not_eq_true' Bool.not_eq_false' Int.reduceEq Int.reduceNe Int.reduceTDiv Int.reduceTMod Int.reduceAdd Int.reduceSub Int.reduceMul Int.reduceToNat Int.reduceLT Int.reduceLE Int.reduceNeg Nat.reduceLT Int.toNat_natCast byteD List.length_map Nat.lt_irrefl Int.lt_irrefl decide_true decide_false

end Go.AB

/- Regions that draw their order, whose effects come last and in one order. -/
namespace Go.AB

/-- Earlier operations that an operation waits for, at once or through others. -/
inductive Anc (ops : Array Oper) : Nat → Nat → Prop where
  | one (j : Nat) (o : Oper) (e : Edge) : ops[j]? = some o → e ∈ o.after → Region.binds .any e = true → Anc ops j e.on
  | more (j i : Nat) (o : Oper) (e : Edge) : ops[j]? = some o → e ∈ o.after → Region.binds .any e = true → Anc ops e.on i → Anc ops j i

def ancStep (acc : List (List Nat)) (o : Oper) : List (List Nat) :=
  acc ++ [((o.after.toList.filter fun e => Region.binds .any e).flatMap fun e => e.on :: acc.getD e.on []).eraseDups]
def ancs (l : List Oper) : List (List Nat) := l.foldl ancStep []

theorem ancs_go {ops : Array Oper} : ∀ (l pre : List Oper) (acc : List (List Nat)), ops.toList = pre ++ l → acc.length = pre.length → (∀ j i, i ∈ acc.getD j [] → Anc ops j i) →
    ∀ j i, i ∈ (l.foldl ancStep acc).getD j [] → Anc ops j i
  | [], _, acc, _, _, h => h
  | o :: l, pre, acc, he, hl, h => by
    rw [List.foldl_cons]
    refine ancs_go l (pre ++ [o]) _ (by simp [he]) (by simp [ancStep, hl]) (fun j i hi => ?_)
    by_cases hj : j < acc.length
    · rw [ancStep, List.getD_eq_getElem?_getD, List.getElem?_append_left hj, ← List.getD_eq_getElem?_getD] at hi
      exact h j i hi
    · rw [ancStep, List.getD_eq_getElem?_getD, List.getElem?_append_right (by omega)] at hi
      by_cases hj2 : j - acc.length = 0
      · rw [hj2] at hi
        simp only [List.getElem?_cons_zero, Option.getD_some, List.mem_eraseDups, List.mem_flatMap, List.mem_filter, List.mem_cons] at hi
        have ho : ops[j]? = some o := by
          rw [← Array.getElem?_toList, he, List.getElem?_append_right (by omega)]
          rw [show j - pre.length = 0 by omega]; rfl
        obtain ⟨e, ⟨he1, he2⟩, rfl | hi⟩ := hi
        · exact .one j o e ho (by simpa using he1) he2
        · exact .more j i o e ho (by simpa using he1) he2 (h _ _ hi)
      · rw [List.getElem?_eq_none (by simp; omega)] at hi
        simp at hi

/-- From k on each operation waits for all earlier ones. -/
def forcedB (ops : Array Oper) (k : Nat) : Bool := (List.range ops.size).all fun j => decide (j < k) || (List.range j).all fun i => ((ancs ops.toList).getD j []).contains i

theorem forcedB_spec {ops : Array Oper} {k : Nat} (h : forcedB ops k = true) : ∀ j, k ≤ j → j < ops.size → ∀ i, i < j → Anc ops j i := by
  intro j hk hj i hi
  have h1 := List.all_eq_true.1 h j (List.mem_range.2 hj)
  simp only [Bool.or_eq_true, decide_eq_true_eq] at h1
  have h2 := List.all_eq_true.1 (h1.resolve_left (by omega)) i (List.mem_range.2 hi)
  refine ancs_go ops.toList [] [] (by simp) rfl (fun j i hi => by simp at hi) j i ?_
  exact List.contains_iff_mem.1 h2

/-- As 'drawB', the operations from k on aside. -/
def drawB20 (ops : Array Oper) (k : Nat) : Bool := (List.range ops.size).all fun j => match ops[j]? with
  | some oj => (oj.after.all fun e => !Region.binds .any e || decide (e.on < j)) &&
    (List.range j).all fun i => match ops[i]? with
      | some oi => (decide (k ≤ j) || directly ops i j || oi.apart ops oj) && (oi.dst == none || oi.dst != oj.dst)
      | none => true
  | none => true

def drawB2 (ops : Array Oper) (k : Nat) : Bool := drawB20 ops k && noDef ops
theorem drawB2_nd {ops : Array Oper} {k : Nat} (h : drawB2 ops k = true) : ∀ o ∈ ops.toList, ∀ c, o.op ≠ .defer c := by
  simp only [drawB2, Bool.and_eq_true] at h
  exact noDef_spec h.2

structure DrawOk2 (ops : Array Oper) (k : Nat) : Prop where
  back : ∀ (j : Nat) o, ops[j]? = some o → ∀ e ∈ o.after, Region.binds .any e = true → e.on < j
  apart : ∀ (i j : Nat) oi oj, i < j → j < k → ops[i]? = some oi → ops[j]? = some oj → (∃ e ∈ oj.after, Region.binds .any e = true ∧ e.on = i) ∨ oi.apart ops oj = true
  once : ∀ (i j : Nat) oi oj d, i ≠ j → ops[i]? = some oi → ops[j]? = some oj → oi.dst = some d → oj.dst ≠ some d

theorem drawB2_spec {ops : Array Oper} {k : Nat} (h : drawB2 ops k = true) : DrawOk2 ops k := by
  simp only [drawB2, Bool.and_eq_true] at h
  replace h := h.1
  have h0 : ∀ (j : Nat) oj, ops[j]? = some oj → (∀ e ∈ oj.after, Region.binds .any e = true → e.on < j) ∧
      ∀ (i : Nat) oi, i < j → ops[i]? = some oi → (j < k → (∃ e ∈ oj.after, Region.binds .any e = true ∧ e.on = i) ∨ oi.apart ops oj = true) ∧ (oi.dst = none ∨ oi.dst ≠ oj.dst) := by
    intro j oj hj
    have hlt := (Array.getElem?_eq_some_iff.1 hj).1
    have h1 := List.all_eq_true.1 h j (List.mem_range.2 hlt)
    simp only [hj, Bool.and_eq_true] at h1
    obtain ⟨h1, h2⟩ := h1
    refine ⟨fun e he hb => ?_, fun i oi hij hi => ?_⟩
    · have := Array.all_eq_true_iff_forall_mem.1 h1 e he
      simpa [hb] using this
    · have h3 := List.all_eq_true.1 h2 i (List.mem_range.2 hij)
      simp only [hi, Bool.and_eq_true, Bool.or_eq_true, decide_eq_true_eq] at h3
      obtain ⟨h3, h4⟩ := h3
      refine ⟨fun hk => ?_, ?_⟩
      · rcases h3 with (h3 | h3) | h3
        · omega
        · left
          simp only [directly, hj] at h3
          obtain ⟨e, he, hb⟩ := Array.any_eq_true'.1 h3
          simp only [Bool.and_eq_true, beq_iff_eq] at hb
          exact ⟨e, he, hb⟩
        · exact .inr h3
      · rcases h4 with h4 | h4
        · exact .inl (by simpa using h4)
        · exact .inr (by simpa using h4)
  refine ⟨fun j o hj => (h0 j o hj).1, fun i j oi oj hij hk hi hj => ((h0 j oj hj).2 i oi hij hi).1 hk, fun i j oi oj d hne hi hj hd hd' => ?_⟩
  rcases Nat.lt_or_gt_of_ne hne with hlt | hlt
  · rcases ((h0 j oj hj).2 i oi hlt hi).2 with h1 | h1
    · rw [h1] at hd; cases hd
    · exact h1 (hd.trans hd'.symm)
  · rcases ((h0 i oi hi).2 j oj hlt hj).2 with h1 | h1
    · rw [h1] at hd'; cases hd'
    · exact h1 (hd'.trans hd.symm)

section
variable {P : Program} {E : Env} {ops : Array Oper} {vs : List AV} {σ0 : AS}

theorem JL.agree2 {k0 : Nat} (hd : DrawOk2 ops k0) (hl : vs.length = ops.size) {L : Array Bool} {σ : AS} (J : JL ops vs σ0 L σ) {i : Nat} {o : Oper} (hph : ∀ j, k0 ≤ j → L.getD j false = false) (hik : i < k0) (hi : ops[i]? = some o) (hr : i ∈ Region.ready .any ops L) :
    Agree ops o (puts σ0 (ops.toList.take i) (vs.take i)) σ := by
  obtain ⟨hun, o', ho', hall⟩ := mem_ready.1 hr
  rw [hi] at ho'
  cases ho'
  have hilt := (Array.getElem?_eq_some_iff.1 hi).1
  have hun' : L.getD i false = false := by
    have hsz := J.size
    simp only [Array.getD_eq_getD_getElem?] at hun ⊢
    have : i < L.size := by omega
    simp only [Array.getElem?_eq_getElem this, Option.getD_some] at hun ⊢
    exact hun
  refine ⟨fun t ht => ?_, by rw [puts_m, J.h], by rw [puts_m, J.o]⟩
  have hvi : ∀ j, j < ops.size → ∃ v, vs[j]? = some v := fun j hj => ⟨_, List.getElem?_eq_getElem (by omega)⟩
  by_cases hw : ∃ (j : Nat) (oj : Oper), ops[j]? = some oj ∧ oj.dst = some t
  · obtain ⟨j, oj, hj, hdj⟩ := hw
    have hjlt := (Array.getElem?_eq_some_iff.1 hj).1
    obtain ⟨v, hv⟩ := hvi j hjlt
    rcases Nat.lt_trichotomy j i with hlt | heq | hgt
    · have hL : L.getD j false = true := by
        rcases hd.apart j i oj o hlt hik hj hi with ⟨e, he, hb, heq⟩ | hap
        · rw [← heq]; exact hall e he hb
        · exact absurd ht ((Oper.apart_spec hap).1 t hdj)
      rw [J.done j oj v t hj hv hdj hL]
      rw [puts_done (ops.toList.take i) σ0 (vs.take i) j oj v (by rw [List.getElem?_take]; simp [hlt, hj]) (by rw [List.getElem?_take]; simp [hlt, hv]) hdj
        (fun k o' hk ho' => by
          rw [List.getElem?_take] at ho'
          split at ho'
          · exact hd.once j k oj o' t (by omega) hj (by simpa using ho') hdj
          · cases ho')]
    · subst heq
      rw [hi] at hj
      cases hj
      rw [puts_rest _ _ _ (fun o' ho' => by
        obtain ⟨k, hk⟩ := List.getElem?_of_mem ho'
        rw [List.getElem?_take] at hk
        split at hk
        · exact hd.once j k o o' t (by omega) hi (by simpa using hk) hdj
        · cases hk)]
      exact J.rest t fun k ok hk hL hdk => by
        by_cases hjk : k = j
        · subst hjk; rw [hun'] at hL; cases hL
        · exact hd.once k j ok o t hjk hk hi hdk hdj
    · have hLj : ¬ L.getD j false = true := fun hL => by
        have hjk : j < k0 := by
          rcases Nat.lt_or_ge j k0 with h | h
          · exact h
          · rw [hph j h] at hL; cases hL
        rcases hd.apart i j o oj hgt hjk hi hj with ⟨e, he, hb, heq⟩ | hap
        · have := J.closed j oj hj hL e he hb
          rw [heq, hun'] at this
          cases this
        · exact absurd ht ((Oper.apart_spec hap).2.2 t hdj)
      rw [puts_rest _ _ _ (fun o' ho' => by
        obtain ⟨k, hk⟩ := List.getElem?_of_mem ho'
        rw [List.getElem?_take] at hk
        split at hk
        · exact hd.once j k oj o' t (by omega) hj (by simpa using hk) hdj
        · cases hk)]
      exact J.rest t fun k ok hk hL hdk => by
        by_cases hjk : k = j
        · subst hjk; exact hLj hL
        · exact hd.once k j ok oj t hjk hk hj hdk hdj
  · rw [puts_rest _ _ _ (fun o' ho' => by
      obtain ⟨k, hk⟩ := List.getElem?_of_mem ho'
      rw [List.getElem?_take] at hk
      split at hk
      · exact fun hdk => hw ⟨k, o', by simpa using hk, hdk⟩
      · cases hk)]
    exact J.rest t fun k ok hk hL hdk => hw ⟨k, ok, hk, hdk⟩

theorem JL.step2 {k0 : Nat} (hd : DrawOk2 ops k0) {L : Array Bool} {σ : AS} (J : JL ops vs σ0 L σ) {i : Nat} {o : Oper} {v : AV} (hi : ops[i]? = some o) (hv : vs[i]? = some v) (hr : i ∈ Region.ready .any ops L)
    {nx : Nat} {lv : Nat → Prop} (h1 : σ.m.nx ≤ nx) (h2 : ∀ j, σ.m.lv j → lv j) : JL ops vs σ0 (L.setIfInBounds i true) (AS.put ⟨σ.s, ⟨σ.m.h, σ.m.o, nx, lv⟩⟩ o.dst v) := by
  obtain ⟨hun, o', ho', hall⟩ := mem_ready.1 hr
  rw [hi] at ho'
  cases ho'
  have hsz := J.size
  have hilt := (Array.getElem?_eq_some_iff.1 hi).1
  have hset : ∀ k, (L.setIfInBounds i true).getD k false = true → k = i ∨ L.getD k false = true := fun k hk => by
    by_cases hki : k = i
    · exact .inl hki
    · rw [getD_set_ne false (Ne.symm hki)] at hk; exact .inr hk
  refine ⟨by simpa using hsz, by rw [put_len]; exact J.len, by rw [put_m]; exact J.h, by rw [put_m]; exact J.o, by rw [put_m]; exact Nat.le_trans J.nx h1, fun j hj => by rw [put_m]; exact h2 j (J.lv j hj), fun j oj hj hL e he hb => ?_,
    fun k ok u d hk hu hdk hL => ?_, fun t ht => ?_⟩
  · rcases hset j hL with rfl | hL
    · rw [hi] at hj; cases hj
      exact getD_set_true (hall e he hb)
    · exact getD_set_true (J.closed j oj hj hL e he hb)
  · rcases hset k hL with rfl | hL
    · rw [hi] at hk; cases hk
      rw [hv] at hu; cases hu
      rw [hdk, put_eq]
      simp only [J.len]
    · by_cases hki : k = i
      · subst hki
        rw [hi] at hk; cases hk
        rw [hv] at hu; cases hu
        rw [hdk, put_eq]
        simp only [J.len]
      · rw [put_ne (hd.once k i ok o d hki hk hi hdk)]
        exact J.done k ok u d hk hu hdk hL
  · have hi2 : (L.setIfInBounds i true).getD i false = true := by
      simp [show i < L.size by omega]
    rw [put_ne (ht i o hi hi2)]
    exact J.rest t fun k ok hk hL => ht k ok hk (getD_set_true hL)


/-- What an operation waits for has been, when it has been. -/
theorem Anc.done {L : Array Bool} (hc : ∀ (j : Nat) o, ops[j]? = some o → L.getD j false = true → ∀ e ∈ o.after, Region.binds .any e = true → L.getD e.on false = true) {j i : Nat} (h : Anc ops j i) (hj : L.getD j false = true) : L.getD i false = true := by
  induction h with
  | one j o e ho he hb => exact hc j o ho hj e he hb
  | more j i o e ho he hb _ ih => exact ih (hc j o ho hj e he hb)

theorem Anc.ready {L : Array Bool} (hc : ∀ (j : Nat) o, ops[j]? = some o → L.getD j false = true → ∀ e ∈ o.after, Region.binds .any e = true → L.getD e.on false = true) {j i : Nat} {o : Oper} (h : Anc ops j i) (ho : ops[j]? = some o) (hr : ∀ e ∈ o.after, Region.binds .any e = true → L.getD e.on false = true) : L.getD i false = true := by
  cases h with
  | one _ o' e ho' he hb => rw [ho] at ho'; cases ho'; exact hr e he hb
  | more _ _ o' e ho' he hb h => rw [ho] at ho'; cases ho'; exact h.done hc (hr e he hb)

theorem JL.final2 {k0 : Nat} (hd : DrawOk2 ops k0) (hl : vs.length = ops.size) (hk : k0 ≤ ops.size) {L : Array Bool} {σ : AS} (J : JL ops vs σ0 L σ) (hall : ∀ i, i < k0 → L.getD i false = true) (hph : ∀ j, k0 ≤ j → L.getD j false = false) :
    σ.s = (puts σ0 (ops.toList.take k0) (vs.take k0)).s := by
  have hnth : ∀ t, nth σ.s t = nth (puts σ0 (ops.toList.take k0) (vs.take k0)).s t := by
    intro t
    by_cases hw : ∃ (j : Nat) (oj : Oper), j < k0 ∧ ops[j]? = some oj ∧ oj.dst = some t
    · obtain ⟨j, oj, hjk, hj, hdj⟩ := hw
      have hv := List.getElem?_eq_getElem (l := vs) (i := j) (by omega)
      rw [J.done j oj _ t hj hv hdj (hall j hjk)]
      rw [puts_done (ops.toList.take k0) σ0 (vs.take k0) j oj _ (by rw [List.getElem?_take]; simp [hjk, hj]) (by rw [List.getElem?_take]; simp only [hjk, if_true]; exact hv) hdj (fun k o' hk ho' => by
        rw [List.getElem?_take] at ho'
        split at ho'
        · exact hd.once j k oj o' t (by omega) hj (by simpa using ho') hdj
        · cases ho')]
    · rw [puts_rest _ _ _ (fun o' ho' => by
        obtain ⟨k, hk⟩ := List.getElem?_of_mem ho'
        rw [List.getElem?_take] at hk
        split at hk
        · rename_i hlt
          exact fun hdk => hw ⟨k, o', hlt, by simpa using hk, hdk⟩
        · cases hk)]
      exact J.rest t fun k ok hk hL hdk => by
        rcases Nat.lt_or_ge k k0 with h | h
        · exact hw ⟨k, ok, h, hk, hdk⟩
        · rw [hph k h] at hL; cases hL
  have hlen : σ.s.length = (puts σ0 (ops.toList.take k0) (vs.take k0)).s.length := by rw [puts_len]; exact J.len
  apply List.ext_getElem?
  intro t
  rcases Nat.lt_or_ge t σ.s.length with hlt | hge
  · rw [nth_lt hlt, nth_lt (by omega), hnth]
  · rw [List.getElem?_eq_none hge, List.getElem?_eq_none (by omega)]

theorem count_set {L : Array Bool} {i : Nat} (hlt : i < L.size) (hun : L.getD i true = false) {fuel : Nat} (hc : (L.toList.filter (fun b => !b)).length ≤ fuel + 1) : ((L.setIfInBounds i true).toList.filter (fun b => !b)).length ≤ fuel := by
  have hf : L.toList[i]'(by simpa using hlt) = false := by
    simp only [Array.getD_eq_getD_getElem?, Array.getElem?_eq_getElem hlt, Option.getD_some] at hun
    simpa using hun
  have : (L.setIfInBounds i true).toList = L.toList.set i true := by simp
  rw [this]
  have e1 : ((L.toList.set i true).filter (fun b => !b)).length + 1 = (L.toList.filter (fun b => !b)).length := by
    rw [← List.countP_eq_length_filter, ← List.countP_eq_length_filter, List.countP_set (by simpa using hlt), hf]
    have : 0 < List.countP (fun b => !b) L.toList := List.countP_pos_iff.2 ⟨false, by rw [← hf]; exact List.getElem_mem _, rfl⟩
    simp only [Bool.not_false, Bool.not_true, if_true, Bool.false_eq_true, if_false]
    omega
  omega

theorem none_left {L : Array Bool} {i : Nat} (hlt : i < L.size) (hc : (L.toList.filter (fun b => !b)).length ≤ 0) : L.getD i false = true := by
  cases h : L.getD i false with
  | true => rfl
  | false =>
    have hm : false ∈ L.toList.filter (fun b => !b) := by
      simp only [Array.getD_eq_getD_getElem?, Array.getElem?_eq_getElem hlt, Option.getD_some] at h
      rw [List.mem_filter]
      exact ⟨by rw [← h]; simp, rfl⟩
    rw [List.eq_nil_of_length_eq_zero (Nat.le_zero.1 hc)] at hm
    cases hm

theorem undone {L : Array Bool} {i : Nat} (hun : L.getD i true = false) : L.getD i false = false ∧ i < L.size := by
  have hlt : i < L.size := by
    rcases Nat.lt_or_ge i L.size with h | h
    · exact h
    · simp [h] at hun
  refine ⟨?_, hlt⟩
  simp only [Array.getD_eq_getD_getElem?, Array.getElem?_eq_getElem hlt, Option.getD_some] at hun ⊢
  exact hun

/-- The operations from p on, one after the other. -/
theorem seq_ok {k0 : Nat} (hT : TabsOk P E) (hF : ∀ j, k0 ≤ j → j < ops.size → ∀ i, i < j → Anc ops j i) (hback : ∀ (j : Nat) o, ops[j]? = some o → ∀ e ∈ o.after, Region.binds .any e = true → e.on < j) {Q : Exit → AS → Prop} :
    ∀ (fuel p : Nat) (L : Array Bool) (σ : AS) (a : Act) (w : World), k0 ≤ p → p ≤ ops.size → L.size = ops.size → (∀ j, j < ops.size → (L.getD j false = true ↔ j < p)) → (L.toList.filter (fun b => !b)).length ≤ fuel → St E σ a w →
      exOps P ops (ops.toList.drop p) σ (Q .normal) → wpAny P .any ops (Lift0 E Q) fuel L a w := by
  intro fuel
  induction fuel with
  | zero =>
    intro p L σ a w hkp hp hsz hL hc hst h
    have hall : ∀ i, i < ops.size → L.getD i false = true := fun i hi => none_left (by omega) hc
    have hpe : p = ops.size := by
      rcases Nat.lt_or_ge p ops.size with h | h
      · have := (hL p h).1 (hall p h); omega
      · omega
    subst hpe
    have hr : Region.ready .any ops L = [] := by
      apply List.eq_nil_iff_forall_not_mem.2
      intro i hi
      obtain ⟨h1, h2⟩ := undone (mem_ready.1 hi).1
      rw [hall i (by omega)] at h1; cases h1
    refine ⟨hr, σ, hst, ?_⟩
    rw [List.drop_eq_nil_of_le (by simp), exOps_nil] at h
    exact h
  | succ fuel ih =>
    intro p L σ a w hkp hp hsz hL hc hst h
    refine ⟨fun hr => ?_, fun i hi => ?_⟩
    · have hpe : p = ops.size := by
        rcases Nat.lt_or_ge p ops.size with hlt | h
        · exfalso
          have hpL : L.getD p false = false := by
            cases hq : L.getD p false with
            | false => rfl
            | true => have := (hL p hlt).1 hq; omega
          have : p ∈ Region.ready .any ops L := by
            refine mem_ready.2 ⟨?_, ops[p], Array.getElem?_eq_getElem hlt, fun e he hb => ?_⟩
            · have hl : p < L.size := by omega
              simp only [Array.getD_eq_getD_getElem?, Array.getElem?_eq_getElem hl, Option.getD_some] at hpL ⊢
              exact hpL
            · have := hback p _ (Array.getElem?_eq_getElem hlt) e he hb
              exact (hL e.on (by omega)).2 this
          rw [hr] at this
          cases this
        · omega
      subst hpe
      rw [List.drop_eq_nil_of_le (by simp), exOps_nil] at h
      exact ⟨σ, hst, h⟩
    · obtain ⟨hun, o, ho, hall⟩ := mem_ready.1 hi
      obtain ⟨hun', hil⟩ := undone hun
      have hilt := (Array.getElem?_eq_some_iff.1 ho).1
      have hge : p ≤ i := by
        rcases Nat.lt_or_ge i p with h | h
        · have := (hL i hilt).2 h; rw [hun'] at this; cases this
        · exact h
      have hcl : ∀ (j : Nat) o, ops[j]? = some o → L.getD j false = true → ∀ e ∈ o.after, Region.binds .any e = true → L.getD e.on false = true := fun j o hj hLj e he hb => by
        have hjl := (Array.getElem?_eq_some_iff.1 hj).1
        have h1 := (hL j hjl).1 hLj
        have h2 := hback j o hj e he hb
        exact (hL e.on (by omega)).2 (by omega)
      have hpi : p = i := by
        rcases Nat.lt_or_ge p i with h | h
        · have h1 := (hF i (by omega) hilt p h).ready hcl ho hall
          have := (hL p (by omega)).1 h1
          omega
        · omega
      subst hpi
      have hdrop : ops.toList.drop p = o :: ops.toList.drop (p + 1) := by
        rw [List.drop_eq_getElem_cons (by simpa using hilt)]
        congr 1
        have := (Array.getElem?_eq_some_iff.1 ho).2
        simpa using this
      rw [hdrop, exOps_cons] at h
      refine wpOp_mono ?_ (exG_ok hT ho h hst)
      rintro a' w' ⟨σ', hst', h'⟩
      rw [kOps_eq] at h'
      refine ih (p + 1) _ σ' a' w' (by omega) (by omega) (by simpa using hsz) (fun j hj => ?_) (count_set (by omega) hun hc) hst' h'
      by_cases hjp : j = p
      · subst hjp
        simp [show j < L.size by omega]
      · rw [getD_set_ne false (Ne.symm hjp), hL j hj]
        omega

theorem any_ok2 {k0 : Nat} (hT : TabsOk P E) (hd : DrawOk2 ops k0) (hF : ∀ j, k0 ≤ j → j < ops.size → ∀ i, i < j → Anc ops j i) (hk0 : k0 < ops.size) (hl : vs.length = ops.size)
    (hy : ∀ (i : Nat) (o : Oper) (v : AV), i < k0 → ops.toList[i]? = some o → vs[i]? = some v → YieldsA P ops o v (puts σ0 (ops.toList.take i) (vs.take i)))
    {Q : Exit → AS → Prop} (hK : ∀ nx lv, σ0.m.nx ≤ nx → (∀ j, σ0.m.lv j → lv j) → exOps P ops (ops.toList.drop k0) ⟨(puts σ0 (ops.toList.take k0) (vs.take k0)).s, ⟨σ0.m.h, σ0.m.o, nx, lv⟩⟩ (Q .normal)) :
    ∀ (fuel : Nat) (L : Array Bool) (σ : AS) (a : Act) (w : World), (L.toList.filter (fun b => !b)).length ≤ fuel → JL ops vs σ0 L σ → (∀ j, k0 ≤ j → L.getD j false = false) → St E σ a w → wpAny P .any ops (Lift0 E Q) fuel L a w := by
  intro fuel
  induction fuel with
  | zero =>
    intro L σ a w hc J hph hst
    have := none_left (L := L) (i := k0) (by have := J.size; omega) hc
    rw [hph k0 (Nat.le_refl _)] at this; cases this
  | succ fuel ih =>
    intro L σ a w hc J hph hst
    by_cases hpre : ∀ i, i < k0 → L.getD i false = true
    · have h1 := J.final2 hd hl (by omega) hpre hph
      have h := hK σ.m.nx σ.m.lv J.nx J.lv
      rw [← h1, ← J.h, ← J.o] at h
      refine seq_ok hT hF hd.back (fuel + 1) k0 L σ a w (Nat.le_refl _) (by omega) J.size (fun j hj => ⟨fun hL => ?_, fun hj => hpre j hj⟩) hc hst h
      rcases Nat.lt_or_ge j k0 with h | h
      · exact h
      · rw [hph j h] at hL; cases hL
    · refine ⟨fun hr => ?_, fun i hi => ?_⟩
      · exfalso
        apply hpre
        intro i
        induction i using Nat.strongRecOn with
        | _ i ihi =>
          intro hlt
          cases hL : L.getD i false with
          | true => rfl
          | false =>
            have hsz := J.size
            have hio : i < ops.size := by omega
            have : i ∈ Region.ready .any ops L := by
              refine mem_ready.2 ⟨?_, ops[i], Array.getElem?_eq_getElem hio, fun e he hb => ?_⟩
              · have hl : i < L.size := by omega
                simp only [Array.getD_eq_getD_getElem?, Array.getElem?_eq_getElem hl, Option.getD_some] at hL ⊢
                exact hL
              · have := hd.back i _ (Array.getElem?_eq_getElem hio) e he hb
                exact ihi e.on this (by omega)
            rw [hr] at this
            cases this
      · obtain ⟨hun, o, ho, hall⟩ := mem_ready.1 hi
        have hilt := (Array.getElem?_eq_some_iff.1 ho).1
        have hik : i < k0 := by
          rcases Nat.lt_or_ge i k0 with h | h
          · exact h
          · exfalso
            apply hpre
            intro m hm
            exact (hF i h hilt m (by omega)).ready J.closed ho hall
        have hv := List.getElem?_eq_getElem (l := vs) (i := i) (by omega)
        have ag := J.agree2 hd hl hph hik ho hi
        have key := hy i o _ hik (by simpa using ho) hv σ ag (fun τ => JL ops vs σ0 (L.setIfInBounds i true) τ) (fun nx lv g1 g2 => J.step2 hd ho hv hi g1 g2)
        have hlt : i < L.size := by have := J.size; omega
        refine wpOp_mono ?_ (exG_ok hT ho key hst)
        rintro a' w' ⟨σ', hst', J'⟩
        have hph' : ∀ j, k0 ≤ j → (L.setIfInBounds i true).getD j false = false := fun j hj => by
          rw [getD_set_ne false (show i ≠ j by omega)]; exact hph j hj
        rcases J' with J' | J'
        · exact ih _ σ' a' w' (count_set hlt hun hc) J' hph' hst'
        · exact ih _ _ a' w' (count_set hlt hun hc) J' hph' (hst'.erAt o.dst)

/-- A region that draws: k operations that write nothing, in any order; then the others, in the one order that there is. -/
theorem AW_draw2 {id k : Nat} {Q : Exit → AS → Prop} (hm : P.follows .mixedOrders = true) (hB : drawB2 ops k = true) (hF : forcedB ops k = true) (hk : k < ops.size)
    (h : exOpsD P ops (ops.toList.take k) σ0 (fun τ => ∀ nx lv, τ.m.nx ≤ nx → (∀ j, τ.m.lv j → lv j) → exOps P ops (ops.toList.drop k) ⟨τ.s, ⟨τ.m.h, τ.m.o, nx, lv⟩⟩ (Q .normal))) : AW P E (.region id ops true) Q σ0 := by
  refine AW_any hm (drawB2_nd hB) fun E a w _ hT hst => ?_
  obtain ⟨vs, g1, g2, g3⟩ := text _ _ _ h
  have hd := drawB2_spec hB
  have hvl : vs.length = k := by rw [g1]; simp; omega
  have htk : ∀ n, n ≤ k → (vs ++ List.replicate (ops.size - k) undefA).take n = vs.take n := fun n hn => by rw [List.take_append_of_le_length (by omega)]
  have ht2 : ∀ n, n ≤ k → (ops.toList.take k).take n = ops.toList.take n := fun n hn => by rw [List.take_take, Nat.min_eq_left hn]
  refine any_ok2 (E := E) (P := P) (vs := vs ++ List.replicate (ops.size - k) undefA) (σ0 := σ0) hT hd (forcedB_spec hF) hk (by simp; omega) (fun i o v hik hi hv => ?_) ?_ _ _ σ0 a _ ?_ ?_ (fun j _ => ?_) (St.drawn hst)
  · have := g3 i o v (by rw [List.getElem?_take_of_lt hik]; exact hi) (by rw [List.getElem?_append_left (by omega)] at hv; exact hv)
    rw [ht2 i (by omega)] at this
    rw [htk i (by omega)]
    exact this
  · intro nx lv h1 h2
    have := g2 nx lv (by rw [puts_m]; exact h1) (fun j hj => h2 j (by rw [puts_m] at hj; exact hj))
    rw [puts_m] at this
    rw [htk k (Nat.le_refl _), show vs.take k = vs from List.take_of_length_le (by omega)]
    exact this
  · exact Nat.le_trans (List.length_filter_le _ _) (by simp)
  · refine ⟨by simp, rfl, rfl, rfl, Nat.le_refl _, fun _ x => x, fun j o hj hL => ?_, fun i o v d _ _ _ hL => ?_, fun t _ => rfl⟩
    · exfalso
      revert hL
      simp only [Array.getD_eq_getD_getElem?, Array.getElem?_replicate]
      split <;> simp
    · exfalso
      revert hL
      simp only [Array.getD_eq_getD_getElem?, Array.getElem?_replicate]
      split <;> simp
  · simp only [Array.getD_eq_getD_getElem?, Array.getElem?_replicate]
    split <;> simp
end

def kDraw2 (P : Program) (ops : Array Oper) (rest : List Oper) (Q : Exit → AS → Prop) (τ : AS) : Prop := ∀ nx lv, τ.m.nx ≤ nx → (∀ j, τ.m.lv j → lv j) → exOps P ops rest ⟨τ.s, ⟨τ.m.h, τ.m.o, nx, lv⟩⟩ (Q .normal)
theorem kDraw2_eq {P : Program} {ops : Array Oper} {rest : List Oper} {Q : Exit → AS → Prop} {τ : AS} : kDraw2 P ops rest Q τ = (∀ nx lv, τ.m.nx ≤ nx → (∀ j, τ.m.lv j → lv j) → exOps P ops rest ⟨τ.s, ⟨τ.m.h, τ.m.o, nx, lv⟩⟩ (Q .normal)) := (rfl)
attribute [go_sem] kDraw2_eq
theorem drawn2 {P : Program} {E : Env} (k : Nat) {id : Nat} {ops : List Oper} {Q : Exit → AS → Prop} {σ0 : AS} (hm : P.follows .mixedOrders = true) (hB : drawB2 ops.toArray k = true) (hF : forcedB ops.toArray k = true) (hk : k < ops.toArray.size)
    (h : exOpsD P ops.toArray (ops.take k) σ0 (kDraw2 P ops.toArray (ops.drop k) Q)) : AW P E (.region id ops.toArray true) Q σ0 := AW_draw2 hm hB hF hk h

end Go.AB

/- Loops whose first rounds are walked one by one; results of the library's generic functions. -/
namespace Go.AB

theorem LW_roundA {P : Program} {E : Env} {c : Code} {Q : Exit → AS → Prop} {σ : AS} (h : AW P E c (thenQ (LW P E c Q) Q) σ) : LW P E c Q σ := by
  unfold LW
  intro hT A a w hs hst
  unfold AW at h
  refine LoopAt.round (wpIn_mono (h hT A a w hs hst) ?_)
  rintro e a1 w1 ⟨A1, σ1, hs1, hst1, hq⟩
  cases e with
  | normal =>
    simp only [thenQ] at hq
    unfold LW at hq
    exact hq hT A1 a1 w1 hs1 hst1
  | _ => exact ⟨A1, σ1, hs1, hst1, hq⟩

/-- A loop from a round's head on, by a relation at each round's head. -/
theorem LW_loopS {P : Program} {E : Env} {c : Code} {Q : Exit → AS → Prop} {s0 : List AV} {m0 : AH} {α : Type} (W : List Nat) (J : α → (Nat → AV) → AH → Prop) (μ : α → Nat) (x0 : α) (h0 : J x0 (nth s0) m0)
    (round : ∀ x ρ m, J x ρ m → exC P E c ⟨mask s0 W ρ, m⟩ (thenQ (LoopEnd s0 W J μ x) Q)) : LW P E c Q ⟨s0, m0⟩ := by
  have key : ∀ n x σ, μ x = n → (σ.s = mask s0 W (nth σ.s) ∧ J x (nth σ.s) σ.m) → LW P E c Q σ := by
    intro n
    induction n using Nat.strongRecOn with
    | _ n ih =>
      rintro x ⟨s, m⟩ hn ⟨h1, h2⟩
      refine LW_roundA ?_
      have h3 := round x (nth s) m h2
      simp only at h1
      rw [← h1] at h3
      refine AW_mono (exC_ok c _ _ h3) ?_
      intro e σ h
      cases e with
      | normal =>
        obtain ⟨h4, y, h5, h6⟩ := h
        exact ih (μ y) (hn ▸ h6) y σ rfl ⟨h4, h5⟩
      | _ => exact h
  exact key _ x0 ⟨s0, m0⟩ rfl ⟨(mask_self W s0).symm, h0⟩

end Go.AB

/- Regions that draw their order, in which variables are written while others are read. -/
namespace Go.AB

def evS (P : Program) (s : List AV) (ty : Nat) (x : Operand) : AV := AS.ev P ⟨s, emptyH⟩ ty x
theorem ev_evS {P : Program} (σ : AS) (ty : Nat) (x : Operand) : AS.ev P σ ty x = evS P σ.s ty x := by cases x <;> rfl
theorem ev_evS' {P : Program} (σ : AS) (ty : Nat) : AS.ev P σ ty = evS P σ.s ty := funext fun x => ev_evS σ ty x
theorem evs_evS {P : Program} (σ : AS) (tys : Array Nat) (xs : Array Operand) : evs P σ tys xs = evs P ⟨σ.s, emptyH⟩ tys xs := by
  unfold evs
  simp only [ev_evS]
theorem evP_evS {P : Program} (σ : AS) (t : Nat) (ps : Array (Nat × Operand)) : evP P σ t ps = evP P ⟨σ.s, emptyH⟩ t ps := by
  unfold evP
  simp only [ev_evS]

/-- The state with another memory. -/
def swp (m : AH) (τ : AS) : AS := ⟨τ.s, ⟨m.h, m.o, τ.m.nx, τ.m.lv⟩⟩

theorem kPut_swap (σ : AS) (m : AH) (dst : Option Nat) (K : AS → Prop) : kPut σ dst (fun τ => K (swp m τ)) = kPut (swp m σ) dst K := by
  funext v
  cases dst <;> rfl
theorem put_swap (σ : AS) (m : AH) (dst : Option Nat) (v : AV) : swp m (σ.put dst v) = (swp m σ).put dst v := by cases dst <;> rfl
theorem swp_s (σ : AS) (m : AH) : (swp m σ).s = σ.s := rfl

/-- Operations that look at the memory by a load alone, and write nothing. -/
def swB : Op → Bool
  | .move _ | .assign _ | .pick .. | .build .. | .load .. | .nilCheck _ | .binOp .. | .unOp .. | .makeInterface .. | .fieldAddr .. | .field .. | .indexAddr .. | .index .. | .extract .. => true
  | .slice _ _ _ _ none => true
  | .convert .. => true
  | _ => false

theorem swap_op {P : Program} {o : Oper} (hs : swB o.op = true) {σ : AS} {m : AH} {K : AS → Prop} (hl : ∀ t a l off, o.op = .load t a → evS P σ.s 0 a = .ptr l off → m.cells l = σ.m.cells l)
    (h : exOp P o σ (fun τ => K (swp m τ))) : exOp P o (swp m σ) K := by
  obtain ⟨dst, op, ty, pos, after, guard⟩ := o
  rw [exOp_eq] at h ⊢
  cases op <;> first | (cases hs; done) | skip
  case load t a =>
    simp only [ev_evS, swp_s] at h ⊢
    rw [kPut_swap] at h
    unfold exLoad at h ⊢
    split at h
    · rename_i l off hp
      have e := hl t a l off rfl hp
      have e2 : (swp m σ).m.cells l = m.cells l := by cases l <;> rfl
      simp only [e2, e]
      exact h
    · exact h
    · exact h.elim
  case slice t x lo hi mx =>
    cases mx with
    | none =>
      simp only [ev_evS, ev_evS', swp_s] at h ⊢
      rw [kPut_swap] at h
      exact h
    | some _ => exact h.elim
  all_goals
    simp only [ev_evS, evP_evS, swp_s] at h ⊢
    first
      | (rw [kPut_swap] at h; exact h)
      | (rw [put_swap] at h; exact h)

theorem KE_swap (m : AH) (dst : Option Nat) (K : AS → Prop) : KE dst (fun τ => K (swp m τ)) = fun τ => KE dst K (swp m τ) := by
  funext τ
  cases dst <;> rfl

theorem swap_g {P : Program} {ops : Array Oper} {o : Oper} (hs : swB o.op = true) {σ : AS} {m : AH} {K : AS → Prop} (hl : ∀ t a l off, o.op = .load t a → evS P σ.s 0 a = .ptr l off → m.cells l = σ.m.cells l)
    (h : exG P ops o σ (fun τ => K (swp m τ))) : exG P ops o (swp m σ) K := by
  unfold exG at h ⊢
  split at h
  · rename_i hgd
    exact swap_op hs hl h
  · rename_i j want hgd
    split at h
    · rename_i d hd
      simp only [swp_s]
      split at h
      · rename_i b hb
        have h := gateW_iff.1 h
        refine gateW_iff.2 ⟨fun hbw => ?_, fun hbw => ?_⟩
        · have h1 := h.1 hbw
          have e : σ.put (some d) (.bool want) = σ := put_same (by rw [hb, hbw]) (by simp [undefA])
          rw [e] at h1
          rw [← put_swap, e]
          exact swap_op hs hl h1
        · have h1 : K (swp m ((σ.put (some d) (.bool !want)).put o.dst undefA)) := h.2 hbw
          rw [put_swap, put_swap] at h1
          exact h1
      · have h1 : K (swp m (σ.put o.dst undefA)) := h
        rw [put_swap] at h1
        exact h1
      · exact h.elim
    · exact h.elim

/-- Who reads and who writes which variable. -/
abbrev Ac := List (Nat × Bool × Loc)

def sepL (eq : List (Nat × Nat)) (i : Nat) (l : Loc) : Ac → Prop
  | [] => True
  | (s, true, l') :: r => ((eq.any fun p => p.1 == i && p.2 == s) = true ∨ l' ≠ l) ∧ sepL eq i l r
  | (_, false, _) :: r => sepL eq i l r
def sepA (eq : List (Nat × Nat)) (all : Ac) : Ac → Prop
  | [] => True
  | (i, false, l) :: r => sepL eq i l all ∧ sepA eq all r
  | (_, true, _) :: r => sepA eq all r

theorem sepL_spec {eq : List (Nat × Nat)} {i : Nat} {l : Loc} : ∀ {ac : Ac}, sepL eq i l ac → ∀ s l', (s, true, l') ∈ ac → (i, s) ∈ eq ∨ l' ≠ l
  | [], _, s, l', h => by simp at h
  | (s0, true, l0) :: r, hp, s, l', h => by
    obtain ⟨h1, h2⟩ := hp
    rcases List.mem_cons.1 h with h | h
    · cases h
      refine h1.imp (fun h1 => ?_) id
      obtain ⟨p, hp, he⟩ := List.any_eq_true.1 h1
      simp only [Bool.and_eq_true, beq_iff_eq] at he
      obtain ⟨e1, e2⟩ := he
      obtain ⟨p1, p2⟩ := p
      simp only at e1 e2
      subst e1 e2
      exact hp
    · exact sepL_spec h2 s l' h
  | (s0, false, l0) :: r, hp, s, l', h => by
    rcases List.mem_cons.1 h with h | h
    · cases h
    · exact sepL_spec (ac := r) hp s l' h

theorem sepA_spec {eq : List (Nat × Nat)} {all : Ac} : ∀ {ac : Ac}, sepA eq all ac → ∀ i l s l', (i, false, l) ∈ ac → (s, true, l') ∈ all → (i, s) ∈ eq ∨ l' ≠ l
  | [], _, i, l, s, l', h, _ => by simp at h
  | (i0, false, l0) :: r, hp, i, l, s, l', h, hs => by
    rcases List.mem_cons.1 h with h | h
    · cases h; exact sepL_spec hp.1 s l' hs
    · exact sepA_spec hp.2 i l s l' h hs
  | (i0, true, l0) :: r, hp, i, l, s, l', h, hs => by
    rcases List.mem_cons.1 h with h | h
    · cases h
    · exact sepA_spec (ac := r) hp i l s l' h hs

def isSt : Op → Bool
  | .store .. => true
  | _ => false

def acOf (P : Program) (o : Oper) (i : Nat) (σ : AS) : Ac := match o.op with
  | .load _ a => match AS.ev P σ 0 a with
    | .ptr l _ => [(i, false, l)]
    | _ => []
  | .store _ a _ => match AS.ev P σ 0 a with
    | .ptr l _ => [(i, true, l)]
    | _ => []
  | _ => []

def kSt (f : AS → (Ac → AS → Prop) → Prop) (K : Ac → AS → Prop) (σ : AS) (m : AH) : Prop := f ⟨σ.s, m⟩ K
def kQu (f : AS → (Ac → AS → Prop) → Prop) (K : Ac → AS → Prop) (σ : AS) : Prop := f σ K

/-- The operations of a region in the order of the text, with what each reads and writes. -/
def exOpsS (P : Program) (ops : Array Oper) : List Oper → Nat → Ac → AS → (Ac → AS → Prop) → Prop
  | [], _, ac, σ, K => K ac σ
  | o :: r, i, ac, σ, K => match o.op with
    | .store t a x => o.guard = none ∧ o.dst = none ∧ exStore P σ.m t (AS.ev P σ 0 a) (AS.ev P σ t x) (kSt (exOpsS P ops r (i + 1) (acOf P o i σ ++ ac)) K σ)
    | _ => swB o.op = true ∧ exGD P ops o σ (kQu (exOpsS P ops r (i + 1) (acOf P o i σ ++ ac)) K)

def StepS (P : Program) (ops : Array Oper) (i : Nat) (o : Oper) (σ : AS) (v : AV) (σ' : AS) (ac : Ac) : Prop :=
  (isSt o.op = false ∧ swB o.op = true ∧ σ' = σ.put o.dst v ∧ YieldsA P ops o v σ ∧ ∀ t a l off, o.op = .load t a → evS P σ.s 0 a = .ptr l off → (i, false, l) ∈ ac) ∨
  (∃ t a x l off cs cs2, o.op = .store t a x ∧ o.guard = none ∧ o.dst = none ∧ evS P σ.s 0 a = .ptr l off ∧ (i, true, l) ∈ ac ∧ σ.m.cells l = some cs ∧ σ' = ⟨σ.s, σ.m.setCells l cs2⟩ ∧
    ∀ (m : AH) (K : AH → Prop), m.cells l = some cs → K (m.setCells l cs2) → exStore P m t (evS P σ.s 0 a) (evS P σ.s t x) K)

theorem textS {P : Program} {ops : Array Oper} : ∀ (l : List Oper) (i : Nat) (ac : Ac) (σ : AS) (K : Ac → AS → Prop), exOpsS P ops l i ac σ K →
    ∃ (f : Nat → AS) (vs : List AV) (ac' : Ac), vs.length = l.length ∧ f 0 = σ ∧ (∀ x ∈ ac, x ∈ ac') ∧ K ac' (f l.length) ∧ ∀ (j : Nat) (o : Oper) (v : AV), l[j]? = some o → vs[j]? = some v → StepS P ops (i + j) o (f j) v (f (j + 1)) ac'
  | [], i, ac, σ, K, h => ⟨fun _ => σ, [], ac, rfl, rfl, fun _ x => x, h, by simp⟩
  | o :: r, i, ac, σ, K, h => by
    have fin : ∀ (σ' : AS) (v : AV), exOpsS P ops r (i + 1) (acOf P o i σ ++ ac) σ' K → (∀ ac', (∀ x ∈ acOf P o i σ ++ ac, x ∈ ac') → StepS P ops i o σ v σ' ac') →
        ∃ (f : Nat → AS) (vs : List AV) (ac' : Ac), vs.length = (o :: r).length ∧ f 0 = σ ∧ (∀ x ∈ ac, x ∈ ac') ∧ K ac' (f (o :: r).length) ∧ ∀ (j : Nat) (o' : Oper) (v : AV), (o :: r)[j]? = some o' → vs[j]? = some v → StepS P ops (i + j) o' (f j) v (f (j + 1)) ac' := by
      intro σ' v h1 h2
      obtain ⟨f, vs, ac', g1, g2, g3, g4, g5⟩ := textS r (i + 1) _ σ' K h1
      refine ⟨fun j => match j with | 0 => σ | j + 1 => f j, v :: vs, ac', by simp [g1], rfl, fun x hx => g3 x (List.mem_append_right _ hx), g4, fun j o' v' hj hv => ?_⟩
      cases j with
      | zero =>
        simp only [List.getElem?_cons_zero, Option.some.injEq] at hj hv
        subst hj hv
        have := h2 ac' g3
        rw [← g2] at this
        exact this
      | succ j =>
        have := g5 j o' v' (by simpa using hj) (by simpa using hv)
        rw [show i + (j + 1) = i + 1 + j by omega]
        exact this
    by_cases hst : ∃ t a x, o.op = .store t a x
    · obtain ⟨t, a, x, hop⟩ := hst
      unfold exOpsS at h
      simp only [hop] at h
      obtain ⟨h1, h2, h3⟩ := h
      rw [ev_evS, ev_evS] at h3
      have h3' := h3
      unfold exStore at h3
      split at h3
      · rename_i l off hp
        split at h3
        · rename_i cs ag n hcs hty
          obtain ⟨k1, k2, k3, k4⟩ := h3
          refine fin _ undefA k4 (fun ac' hac => .inr ⟨t, a, x, l, off, cs, _, hop, h1, h2, hp, ?_, hcs, rfl, fun m K hm hK => ?_⟩)
          · apply hac
            apply List.mem_append_left
            simp only [acOf, hop, ev_evS, hp]
            exact List.mem_singleton_self _
          · unfold exStore
            simp only [hp, hm, hty]
            exact ⟨k1, k2, k3, hK⟩
        · exact h3.elim
      · exact h3.elim
    · have hn : isSt o.op = false := by
        cases hop : o.op <;> first | rfl | exact absurd ⟨_, _, _, hop⟩ hst
      have h' : swB o.op = true ∧ exGD P ops o σ (kQu (exOpsS P ops r (i + 1) (acOf P o i σ ++ ac)) K) := by
        unfold exOpsS at h
        split at h
        · rename_i t a x hop
          exact absurd ⟨t, a, x, hop⟩ hst
        · exact h
      obtain ⟨h1, h2⟩ := h'
      obtain ⟨v, g1, g2⟩ := exGD_local h2
      refine fin _ v g1 (fun ac' hac => .inl ⟨hn, h1, rfl, g2, fun t a l off hop hp => ?_⟩)
      apply hac
      apply List.mem_append_left
      simp only [acOf, hop, ev_evS, hp]
      exact List.mem_singleton_self _


theorem Anc.lt {ops : Array Oper} (hback : ∀ (j : Nat) o, ops[j]? = some o → ∀ e ∈ o.after, Region.binds .any e = true → e.on < j) {j i : Nat} (h : Anc ops j i) : i < j := by
  induction h with
  | one j o e ho he hb => exact hback j o ho e he hb
  | more j i o e ho he hb _ ih => exact Nat.lt_trans ih (hback j o ho e he hb)

theorem puts_snoc {o : Oper} {v : AV} : ∀ (l : List Oper) (σ : AS) (vs : List AV), vs.length = l.length → puts σ (l ++ [o]) (vs ++ [v]) = (puts σ l vs).put o.dst v
  | [], σ, [], _ => by simp [puts]
  | [], σ, _ :: _, h => by simp at h
  | _ :: _, σ, [], h => by simp at h
  | a :: l, σ, b :: vs, h => by
    simp only [List.cons_append, puts]
    exact puts_snoc l _ vs (by simpa using h)

theorem put_s_congr {σ τ : AS} (h : σ.s = τ.s) (d : Option Nat) (v : AV) : (σ.put d v).s = (τ.put d v).s := by
  cases d <;> simp [AS.put, h]

/-- A run in the order of the text. -/
structure RunS (P : Program) (ops : Array Oper) (vs : List AV) (σ0 : AS) (f : Nat → AS) (ac : Ac) (eq : List (Nat × Nat)) : Prop where
  hd : DrawOk ops
  hl : vs.length = ops.size
  h0 : f 0 = σ0
  step : ∀ (i : Nat) (o : Oper) (v : AV), ops[i]? = some o → vs[i]? = some v → StepS P ops i o (f i) v (f (i + 1)) ac
  sep : sepA eq ac ac
  ord : ∀ i s, (i, s) ∈ eq → Anc ops i s ∨ Anc ops s i
  chain : ∀ (s s' : Nat) (o o' : Oper), s < s' → ops[s]? = some o → ops[s']? = some o' → isSt o.op = true → isSt o'.op = true → Anc ops s' s

section
variable {P : Program} {E : Env} {ops : Array Oper} {vs : List AV} {σ0 : AS} {f : Nat → AS} {ac : Ac} {eq : List (Nat × Nat)}

theorem RunS.val (R : RunS P ops vs σ0 f ac eq) {i : Nat} (h : i < ops.size) : ∃ o v, ops[i]? = some o ∧ vs[i]? = some v ∧ StepS P ops i o (f i) v (f (i + 1)) ac := by
  have hv := List.getElem?_eq_getElem (l := vs) (i := i) (by rw [R.hl]; exact h)
  exact ⟨_, _, Array.getElem?_eq_getElem h, hv, R.step i _ _ (Array.getElem?_eq_getElem h) hv⟩

theorem RunS.slots (R : RunS P ops vs σ0 f ac eq) : ∀ i, i ≤ ops.size → (f i).s = (puts σ0 (ops.toList.take i) (vs.take i)).s
  | 0, _ => by simp [puts, R.h0]
  | i + 1, h => by
    obtain ⟨o, v, ho, hv, hs⟩ := R.val (i := i) (by omega)
    have ih := R.slots i (by omega)
    have e1 : ops.toList.take (i + 1) = ops.toList.take i ++ [o] := by rw [List.take_add_one]; simp [ho]
    have e2 : vs.take (i + 1) = vs.take i ++ [v] := by rw [List.take_add_one, hv]; rfl
    have hl := R.hl
    rw [e1, e2, puts_snoc _ _ _ (by simp; omega)]
    rcases hs with ⟨_, _, e, _⟩ | ⟨t, a, x, l, off, cs, cs2, _, _, hdst, _, _, _, e, _⟩
    · rw [e]
      exact put_s_congr ih _ _
    · rw [e, hdst]
      exact ih

theorem RunS.mem (R : RunS P ops vs σ0 f ac eq) (a : Nat) : ∀ b, a ≤ b → b ≤ ops.size → (∀ s o, a ≤ s → s < b → ops[s]? = some o → isSt o.op = false) → (f b).m = (f a).m := by
  intro b
  induction b with
  | zero => intro h _ _; rw [Nat.le_zero.1 h]
  | succ b ih =>
    intro h hb hn
    rcases Nat.lt_or_ge b a with hlt | hge
    · rw [show a = b + 1 by omega]
    · obtain ⟨o, v, ho, hv, hs⟩ := R.val (i := b) (by omega)
      rw [← ih hge (by omega) (fun s o h1 h2 h3 => hn s o h1 (by omega) h3)]
      rcases hs with ⟨_, _, e, _⟩ | ⟨t, a', x, l, off, cs, cs2, hop, _⟩
      · rw [e, put_m]
      · have := hn b o hge (by omega) ho
        rw [hop] at this
        cases this

theorem RunS.cells (R : RunS P ops vs σ0 f ac eq) (l : Loc) (a : Nat) : ∀ b, a ≤ b → b ≤ ops.size → (∀ s l' o, a ≤ s → s < b → ops[s]? = some o → isSt o.op = true → (s, true, l') ∈ ac → l' ≠ l) → (f b).m.cells l = (f a).m.cells l := by
  intro b
  induction b with
  | zero => intro h _ _; rw [Nat.le_zero.1 h]
  | succ b ih =>
    intro h hb hn
    rcases Nat.lt_or_ge b a with hlt | hge
    · rw [show a = b + 1 by omega]
    · obtain ⟨o, v, ho, hv, hs⟩ := R.val (i := b) (by omega)
      rw [← ih hge (by omega) (fun s l' o h1 h2 h3 => hn s l' o h1 (by omega) h3)]
      rcases hs with ⟨_, _, e, _⟩ | ⟨t, a', x, l', off, cs, cs2, hop, _, _, _, hac, hcs, e, _⟩
      · rw [e, put_m]
      · have hne := hn b l' o hge (by omega) ho (by rw [hop]; rfl) hac
        rw [e]
        simp only
        rw [setCells_cells cs2 hcs, if_neg hne]

/-- The state when the operations of L have been. -/
structure JS (ops : Array Oper) (vs : List AV) (σ0 : AS) (f : Nat → AS) (L : Array Bool) (σ : AS) : Prop where
  j : JL ops vs σ0 L (swp σ0.m σ)
  m : ∃ p, p ≤ ops.size ∧ σ.m.h = (f p).m.h ∧ σ.m.o = (f p).m.o ∧ ∀ s o, ops[s]? = some o → isSt o.op = true → (L.getD s false = true ↔ s < p)

theorem setCells_h {m m' : AH} (h : m.h = m'.h) (o : m.o = m'.o) (l : Loc) (cs : List AV) : (m.setCells l cs).h = (m'.setCells l cs).h ∧ (m.setCells l cs).o = (m'.setCells l cs).o := by
  cases l <;> simp [AH.setCells, h, o]
theorem setCells_nx (m : AH) (l : Loc) (cs : List AV) : (m.setCells l cs).nx = m.nx ∧ (m.setCells l cs).lv = m.lv := by cases l <;> exact ⟨rfl, rfl⟩

theorem any_okS (hT : TabsOk P E) (R : RunS P ops vs σ0 f ac eq) {Q : Exit → AS → Prop} (hK : ∀ nx lv, σ0.m.nx ≤ nx → (∀ j, σ0.m.lv j → lv j) → Q .normal ⟨(f ops.size).s, ⟨(f ops.size).m.h, (f ops.size).m.o, nx, lv⟩⟩) :
    ∀ (fuel : Nat) (L : Array Bool) (σ : AS) (a : Act) (w : World), (L.toList.filter (fun b => !b)).length ≤ fuel → JS ops vs σ0 f L σ → St E σ a w → wpAny P .any ops (Lift0 E Q) fuel L a w := by
  have hd := R.hd
  have hl := R.hl
  have fin : ∀ (L : Array Bool) (σ : AS) (a : Act) (w : World), JS ops vs σ0 f L σ → St E σ a w → Region.ready .any ops L = [] → Lift0 E Q .normal a w := by
    intro L σ a w J hst hr
    refine ⟨σ, hst, ?_⟩
    have h1 : σ.s = _ := J.j.final hd hl hr
    have hall := ready_nil hd J.j.size hr
    obtain ⟨p, hp, mh, mo, hs⟩ := J.m
    have hm : (f ops.size).m = (f p).m := R.mem p ops.size hp (Nat.le_refl _) (fun s o h1 h2 h3 => by
      cases hst : isSt o.op with
      | false => rfl
      | true => have := (hs s o h3 hst).1 (hall s h2); omega)
    have hsl := R.slots ops.size (Nat.le_refl _)
    rw [List.take_of_length_le (by simp), List.take_of_length_le (by omega)] at hsl
    have := hK σ.m.nx σ.m.lv J.j.nx J.j.lv
    rw [hsl, ← h1, hm, ← mh, ← mo] at this
    exact this
  intro fuel
  induction fuel with
  | zero =>
    intro L σ a w hc J hst
    have hr : Region.ready .any ops L = [] := by
      apply List.eq_nil_iff_forall_not_mem.2
      intro i hi
      obtain ⟨h1, h2⟩ := undone (mem_ready.1 hi).1
      rw [none_left h2 hc] at h1; cases h1
    exact ⟨hr, fin L σ a w J hst hr⟩
  | succ fuel ih =>
    intro L σ a w hc J hst
    refine ⟨fun hr => fin L σ a w J hst hr, fun i hi => ?_⟩
    obtain ⟨hun, o, ho, hall⟩ := mem_ready.1 hi
    obtain ⟨hun', hlt⟩ := undone hun
    have hilt := (Array.getElem?_eq_some_iff.1 ho).1
    have hv := List.getElem?_eq_getElem (l := vs) (i := i) (by omega)
    have ag := J.j.agree hd hl ho hi
    have hsl := R.slots i (by omega)
    have ags : ∀ t ∈ o.looksAt ops, nth σ.s t = nth (f i).s t := fun t ht => by rw [hsl]; exact ag.s t ht
    obtain ⟨p, hp, mh, mo, hs⟩ := J.m
    have hback := hd.back
    have hanc : ∀ s, Anc ops i s → L.getD s false = true := fun s h => h.ready J.j.closed ho hall
    rcases R.step i o _ ho hv with ⟨hn, hsw, hf, hy, hld⟩ | ⟨t, x0, y0, l, off, cs, cs2, hop, hg, hdst, hp0, hac, hcs, hf, hex⟩
    · -- an operation that writes nothing
      have ag' : Agree ops o (f i) (swp (f i).m σ) := ⟨ags, rfl, rfl⟩
      have key := hy (swp (f i).m σ) ag' (fun τ => JS ops vs σ0 f (L.setIfInBounds i true) (swp σ.m τ)) (fun nx lv g1 g2 => by
        show JS ops vs σ0 f (L.setIfInBounds i true) (swp σ.m _)
        rw [put_swap]
        refine ⟨?_, p, hp, ?_, ?_, fun s os hos hsts => ?_⟩
        · rw [put_swap]
          exact J.j.step hd ho hv hi g1 g2
        · rw [put_m]; exact mh
        · rw [put_m]; exact mo
        · have hne : i ≠ s := fun e => by subst e; rw [ho] at hos; cases hos; rw [hn] at hsts; cases hsts
          rw [getD_set_ne false hne]
          exact hs s os hos hsts)
      rw [KE_swap] at key
      have key2 := swap_g (σ := swp (f i).m σ) (m := σ.m) (K := KE o.dst (fun τ => JS ops vs σ0 f (L.setIfInBounds i true) τ)) hsw (fun t x0 l off hop hp0 => by
        have hev : evS P (f i).s 0 x0 = .ptr l off := by
          have := ag'.ev (P := P) (x := x0) (by simp [hop, Op.operands]) 0
          rw [ev_evS, ev_evS] at this
          rw [← this]
          exact hp0
        have hin := hld t x0 l off hop hev
        have e1 : (swp (f i).m σ).m.cells l = (f i).m.cells l := cells_eq rfl rfl l
        rw [e1, cells_eq mh mo l]
        rcases Nat.le_total p i with hpi | hpi
        · refine (R.cells l p i hpi (by omega) (fun s l' os h1 h2 h3 h4 h5 => ?_)).symm
          rcases sepA_spec R.sep i l s l' hin h5 with h6 | h6
          · exfalso
            rcases R.ord i s h6 with h7 | h7
            · have := (hs s os h3 h4).1 (hanc s h7); omega
            · have := h7.lt hback; omega
          · exact h6
        · refine R.cells l i p hpi hp (fun s l' os h1 h2 h3 h4 h5 => ?_)
          rcases sepA_spec R.sep i l s l' hin h5 with h6 | h6
          · exfalso
            rcases R.ord i s h6 with h7 | h7
            · have := h7.lt hback; omega
            · have hsd := (hs s os h3 h4).2 h2
              have := h7.done J.j.closed hsd
              rw [hun'] at this; cases this
          · exact h6) key
      refine wpOp_mono ?_ (exG_ok hT ho key2 hst)
      rintro a' w' ⟨σ', hst', J'⟩
      rcases J' with J' | J'
      · exact ih _ σ' a' w' (count_set hlt hun hc) J' hst'
      · exact ih _ _ a' w' (count_set hlt hun hc) J' (hst'.erAt o.dst)
    · -- a store
      have hsti : isSt o.op = true := by rw [hop]; rfl
      have hpi : p ≤ i := by
        rcases Nat.lt_or_ge i p with h | h
        · have := (hs i o ho hsti).2 h
          rw [hun'] at this; cases this
        · exact h
      have hbef : ∀ s os, s < i → ops[s]? = some os → isSt os.op = true → L.getD s false = true ∧ s < p := fun s os h1 h2 h3 => by
        have := hanc s (R.chain s i os o h1 h2 ho h3 hsti)
        exact ⟨this, (hs s os h2 h3).1 this⟩
      have hm : (f i).m = (f p).m := R.mem p i hpi (by omega) (fun s os h1 h2 h3 => by
        cases hst : isSt os.op with
        | false => rfl
        | true => have := (hbef s os h2 h3 hst).2; omega)
      have mh' : σ.m.h = (f i).m.h := by rw [hm]; exact mh
      have mo' : σ.m.o = (f i).m.o := by rw [hm]; exact mo
      have ag' : Agree ops o (f i) σ := ⟨ags, mh', mo'⟩
      have e1 : evS P σ.s 0 x0 = evS P (f i).s 0 x0 := by
        have := ag'.ev (P := P) (x := x0) (by simp [hop, Op.operands]) 0
        rw [ev_evS, ev_evS] at this; exact this
      have e2 : evS P σ.s t y0 = evS P (f i).s t y0 := by
        have := ag'.ev (P := P) (x := y0) (by simp [hop, Op.operands]) t
        rw [ev_evS, ev_evS] at this; exact this
      have key : exG P ops o σ (fun τ => JS ops vs σ0 f (L.setIfInBounds i true) τ) := by
        unfold exG
        rw [hg]
        simp only
        rw [exOp_eq, hop]
        simp only [ev_evS, e1, e2]
        refine hex σ.m _ (by rw [cells_eq mh' mo' l]; exact hcs) ?_
        rw [hdst]
        refine ⟨?_, i + 1, by omega, ?_, ?_, fun s os hos hsts => ?_⟩
        · have := J.j.step hd ho hv hi (nx := σ.m.nx) (lv := σ.m.lv) (Nat.le_refl _) (fun _ x => x)
          rw [hdst] at this
          obtain ⟨n1, n2⟩ := setCells_nx σ.m l cs2
          have e : swp σ0.m (AS.put ⟨σ.s, σ.m.setCells l cs2⟩ none undefA) = ⟨σ.s, ⟨σ0.m.h, σ0.m.o, σ.m.nx, σ.m.lv⟩⟩ := by
            simp only [swp, AS.put, n1, n2]
          rw [e]
          exact this
        · rw [hf]; exact (setCells_h mh' mo' l cs2).1
        · rw [hf]; exact (setCells_h mh' mo' l cs2).2
        · by_cases hne : i = s
          · subst hne
            simp [hlt]
          · rw [getD_set_ne false hne]
            constructor
            · intro h
              have := (hs s os hos hsts).1 h
              omega
            · intro h
              exact (hbef s os (by omega) hos hsts).1
      refine wpOp_mono ?_ (exG_ok hT ho key hst)
      rintro a' w' ⟨σ', hst', J'⟩
      exact ih _ σ' a' w' (count_set hlt hun hc) J' hst'
end

/-- The stores wait for one another; the listed pairs too. -/
def chainB (ops : Array Oper) (eq : List (Nat × Nat)) : Bool :=
  let an := ancs ops.toList
  ((List.range ops.size).all fun j => match ops[j]? with
    | some oj => !isSt oj.op || (List.range j).all fun i => match ops[i]? with
      | some oi => !isSt oi.op || (an.getD j []).contains i
      | none => true
    | none => true) &&
  eq.all fun p => (an.getD p.1 []).contains p.2 || (an.getD p.2 []).contains p.1

theorem chainB_spec {ops : Array Oper} {eq : List (Nat × Nat)} (h : chainB ops eq = true) :
    (∀ i s, (i, s) ∈ eq → Anc ops i s ∨ Anc ops s i) ∧ ∀ (s s' : Nat) (o o' : Oper), s < s' → ops[s]? = some o → ops[s']? = some o' → isSt o.op = true → isSt o'.op = true → Anc ops s' s := by
  have hA : ∀ j i, ((ancs ops.toList).getD j []).contains i = true → Anc ops j i := fun j i h =>
    ancs_go ops.toList [] [] (by simp) rfl (fun j i hi => by simp at hi) j i (List.contains_iff_mem.1 h)
  unfold chainB at h
  simp only [Bool.and_eq_true] at h
  obtain ⟨h1, h2⟩ := h
  refine ⟨fun i s hm => ?_, fun s s' o o' hlt ho ho' hst hst' => ?_⟩
  · have := List.all_eq_true.1 h2 (i, s) hm
    simp only [Bool.or_eq_true] at this
    exact this.imp (hA i s) (hA s i)
  · have hl := (Array.getElem?_eq_some_iff.1 ho').1
    have h3 := List.all_eq_true.1 h1 s' (List.mem_range.2 hl)
    simp only [ho', hst', Bool.not_true, Bool.false_or] at h3
    have h4 := List.all_eq_true.1 h3 s (List.mem_range.2 hlt)
    simp only [ho, hst, Bool.not_true, Bool.false_or] at h4
    exact hA s' s h4

def kDrawS (eq : List (Nat × Nat)) (Q : Exit → AS → Prop) (ac : Ac) (τ : AS) : Prop :=
  sepA eq ac ac ∧ ∀ nx lv, τ.m.nx ≤ nx → (∀ j, τ.m.lv j → lv j) → Q .normal ⟨τ.s, ⟨τ.m.h, τ.m.o, nx, lv⟩⟩

/-- A region that draws, with stores. -/
theorem drawnS {P : Program} {E : Env} {id : Nat} {ops : List Oper} {Q : Exit → AS → Prop} {σ0 : AS} (eq : List (Nat × Nat)) (hm : P.follows .mixedOrders = true) (hB : drawB ops.toArray = true) (hC : chainB ops.toArray eq = true)
    (h : exOpsS P ops.toArray ops 0 [] σ0 (kDrawS eq Q)) : AW P E (.region id ops.toArray true) Q σ0 := by
  refine AW_any hm (drawB_nd hB) fun E a w _ hT hst => ?_
  obtain ⟨f, vs, ac, g1, g2, _, ⟨g4, g5⟩, g6⟩ := textS _ _ _ _ _ h
  obtain ⟨c1, c2⟩ := chainB_spec hC
  have R : RunS P ops.toArray vs σ0 f ac eq := ⟨drawB_spec hB, by simpa using g1, g2, fun i o v hi hv => by
    have := g6 i o v (by simpa using hi) hv
    rwa [Nat.zero_add] at this, g4, c1, c2⟩
  have hmono : ∀ i, i ≤ ops.length → (f i).m.nx = σ0.m.nx ∧ (f i).m.lv = σ0.m.lv := by
    intro i
    induction i with
    | zero => intro _; rw [g2]; exact ⟨rfl, rfl⟩
    | succ i ih =>
      intro hi
      obtain ⟨o, v, ho, hv, hs⟩ := R.val (i := i) (by simp; omega)
      obtain ⟨i1, i2⟩ := ih (by omega)
      rcases hs with ⟨_, _, e, _⟩ | ⟨t, a', x, l, off, cs, cs2, _, _, _, _, _, _, e, _⟩
      · rw [e, put_m]; exact ⟨i1, i2⟩
      · rw [e]
        obtain ⟨n1, n2⟩ := setCells_nx (f i).m l cs2
        exact ⟨n1.trans i1, n2.trans i2⟩
  obtain ⟨m1, m2⟩ := hmono ops.length (Nat.le_refl _)
  refine any_okS (E := E) hT R (Q := nrm Q) (fun nx lv h1 h2 => ?_) _ _ σ0 a _ ?_ ?_ (St.drawn hst)
  · have := g5 nx lv (by rw [m1]; exact h1) (fun j hj => h2 j (by rw [m2] at hj; exact hj))
    simpa [nrm] using this
  · exact Nat.le_trans (List.length_filter_le _ _) (by simp)
  · have hno : ∀ j, (Array.replicate ops.toArray.size false).getD j false = true → False := fun j hL => by
      revert hL
      simp only [Array.getD_eq_getD_getElem?, Array.getElem?_replicate]
      split <;> simp
    refine ⟨⟨by simp, rfl, rfl, rfl, Nat.le_refl _, fun _ x => x, fun j o hj hL => (hno j hL).elim, fun i o v d _ _ _ hL => (hno i hL).elim, fun t _ => rfl⟩, 0, Nat.zero_le _, by rw [g2], by rw [g2], fun s o _ _ => ⟨fun hL => (hno s hL).elim, fun h => absurd h (Nat.not_lt_zero _)⟩⟩


section
variable {P : Program} {E : Env}
@[congr] theorem exOpsS_congr {ops : Array Oper} {l : List Oper} {i i' : Nat} {ac ac' : Ac} {σ σ' : AS} {K : Ac → AS → Prop} (hi : i = i') (ha : ac = ac') (h : σ = σ') : exOpsS P ops l i ac σ K = exOpsS P ops l i' ac' σ' K := by rw [hi, ha, h]
@[go_sem] theorem exOpsS_nil {ops : Array Oper} {i : Nat} {ac : Ac} {σ : AS} {K : Ac → AS → Prop} : exOpsS P ops [] i ac σ K = K ac σ := (rfl)
@[go_sem] theorem exOpsS_cons {ops : Array Oper} {o : Oper} {r : List Oper} {i : Nat} {ac : Ac} {σ : AS} {K : Ac → AS → Prop} : exOpsS P ops (o :: r) i ac σ K = (match o.op with
    | .store t a x => o.guard = none ∧ o.dst = none ∧ exStore P σ.m t (AS.ev P σ 0 a) (AS.ev P σ t x) (kSt (exOpsS P ops r (i + 1) (acOf P o i σ ++ ac)) K σ)
    | _ => swB o.op = true ∧ exGD P ops o σ (kQu (exOpsS P ops r (i + 1) (acOf P o i σ ++ ac)) K)) := by
  conv => lhs; unfold exOpsS
@[go_sem] theorem kSt_eq {f : AS → (Ac → AS → Prop) → Prop} {K : Ac → AS → Prop} {σ : AS} {m : AH} : kSt f K σ m = f ⟨σ.s, m⟩ K := (rfl)
@[go_sem] theorem kQu_eq {f : AS → (Ac → AS → Prop) → Prop} {K : Ac → AS → Prop} {σ : AS} : kQu f K σ = f σ K := (rfl)
theorem kDrawS_eq {eq : List (Nat × Nat)} {Q : Exit → AS → Prop} {ac : Ac} {τ : AS} : kDrawS eq Q ac τ = (sepA eq ac ac ∧ ∀ nx lv, τ.m.nx ≤ nx → (∀ j, τ.m.lv j → lv j) → Q .normal ⟨τ.s, ⟨τ.m.h, τ.m.o, nx, lv⟩⟩) := (rfl)
@[go_sem] theorem own_ne {t g t' g' : Nat} : (Loc.own t g ≠ Loc.own t' g') = ¬ (t = t' ∧ g = g') := by simp
@[go_sem] theorem out_ne {i j : Nat} : (Loc.out i ≠ Loc.out j) = ¬ (i = j) := by simp
end
attribute [go_sem] kDrawS_eq acOf sepA sepL isSt swB Loc.own.injEq Loc.out.injEq
attribute [irreducible] exOpsS


/-- A loop whose rest is kept out of sight. -/
theorem LW_hide {P : Program} {E : Env} {c : Code} {Q : Exit → AS → Prop} {σ : AS} (h : ∀ Q' : Exit → AS → Prop, (∀ σ, Q' .ret σ = Q .ret σ) → (∀ id σ, Q' (.exit id) σ = Q (.exit id) σ) → LW P E c Q' σ) : LW P E c Q σ :=
  h Q (fun _ => rfl) (fun _ _ => rfl)


/-- It hands back this value, leaves these cells, and all marks live on. -/
def RQ (nx : Nat) (lv : Nat → Prop) (os : List (List AV)) (r : AV) : AH → AV → Prop := fun m x => x = r ∧ m.o = os ∧ nx ≤ m.nx ∧ ∀ j, lv j → m.lv j

theorem effV {P : Program} {k : Nat} {args : List AV} {σ : AS} {dst : Option Nat} {K : AS → Prop} {ls : List Loc} {as : List AV} {css ds os cs2 : List (List AV)} {r r2 : AV}
    (h1 : rnAL (outF ls) args = some as) (h2 : cellsL σ.m ls = some css) (h3 : rnLL (outF ls) css = some ds) (h4 : IdxOk ls) (h5 : QCall P k ⟨[], ds, σ.m.nx, σ.m.lv⟩ as (RQ σ.m.nx σ.m.lv os r))
    (h6 : rnLL (backF ls none (.own 0 (gnext σ.m 0))) os = some cs2) (h7 : cs2.length = ls.length) (h8 : rnV (backF ls none (.own 0 (gnext σ.m 0))) r = some r2)
    (hK : ∀ nx2 lv2, σ.m.nx ≤ nx2 → (∀ j, σ.m.lv j → lv2 j) → K (AS.put ⟨σ.s, ⟨(σ.m.setAll ls cs2).h, (σ.m.setAll ls cs2).o, nx2, lv2⟩⟩ dst r2)) : effX P k args σ dst K := by
  unfold effX
  refine .inl ?_
  unfold effK
  refine ⟨ls, as, css, ds, _, h1, h2, h3, h4, h5, ?_⟩
  rintro m' x ⟨rfl, ho, hn, hl⟩
  exact ⟨none, 0, [], cs2, r2, by rw [ho]; exact h6, h7, (fun k hk => by cases hk), h8, hK m'.nx m'.lv hn hl⟩

theorem effX.eff {P : Program} {k : Nat} {args : List AV} {σ : AS} {dst : Option Nat} {K : AS → Prop} (h : effK P k args σ dst K) : effX P k args σ dst K := by unfold effX; exact .inl h
theorem effX.share {P : Program} {k : Nat} {args : List AV} {σ : AS} {dst : Option Nat} {K : AS → Prop} {R : AH → AV → Prop} (h : QCall P k σ.m args R) (hK : ∀ m' r, R m' r → K (AS.put ⟨σ.s, m'⟩ dst r)) : effX P k args σ dst K := by
  unfold effX; refine .inr ?_; unfold inlK; exact ⟨R, h, hK⟩
theorem callX.share {P : Program} {k : Nat} {as args : List AV} {σ : AS} {dst : Option Nat} {K : AS → Prop} {R : AH → AV → Prop} (h : QCall P k σ.m args R) (hK : ∀ m' r, R m' r → K (AS.put ⟨σ.s, m'⟩ dst r)) : callX P k as args σ dst K := by
  unfold callX; refine .inr (.inl ?_); unfold inlK; exact ⟨R, h, hK⟩

theorem IdxOk.one (l : Loc) : IdxOk [l] := by
  intro i k h
  cases i with
  | zero => simp at h; subst h; simp [idxL]
  | succ i => simp at h

/-- A call that is handed slices that are one's own, and hands such ones back. -/
theorem callX.own {P : Program} {k : Nat} {as args args2 : List AV} {σ : AS} {dst : Option Nat} {K : AS → Prop} {R : AH → AV → Prop} (h1 : rnAL (outF []) args = some args2) (h : QCall P k ⟨[], [], σ.m.nx, σ.m.lv⟩ args2 R)
    (hK : ∀ m' r, R m' r → m'.o = [] ∧ ∃ r2, rnV (backF [] none (.own 0 (gnext σ.m 0))) r = some r2 ∧ K (AS.put ⟨σ.s, ⟨σ.m.h, σ.m.o, m'.nx, m'.lv⟩⟩ dst r2)) : callX P k as args σ dst K := by
  unfold callX
  refine .inr (.inr ?_)
  unfold effK
  refine ⟨[], args2, [], [], R, h1, rfl, rfl, fun i l hl => by simp at hl, h, fun m' r hr => ?_⟩
  obtain ⟨ho, r2, k1, k2⟩ := hK m' r hr
  exact ⟨none, 0, [], [], r2, by rw [ho]; rfl, rfl, (fun k hk => by cases hk), k1, k2⟩

end Go.AB
