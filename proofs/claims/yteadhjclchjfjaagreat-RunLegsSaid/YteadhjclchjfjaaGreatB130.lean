/- Arguments of a law as abstract data: what a type's cells are, out of what a row reads. -/
import Derived.Test.YteadhjclchjfjaaGreatB120
import Derived.WalkKit
import Derived.ProofKit
import Derived.OpenShut
import Derived.ShutString
import Derived.ChangeOld
import Derived.Below
import Derived.SizedLaws
namespace Go.AB
open Go.ChangeShapes Go.WideShapes Go.ChangeAt Go.RowKit

def isAggD : DV → Bool
  | .agg _ => true
  | _ => false

def aggT (P : Program) (t : Nat) : Bool := match P.underlying t with
  | some (.struct _) => true
  | some (.array _ _) => true
  | _ => false

mutual
/-- The cells of a type. -/
inductive TyD (P : Program) : Nat → List DV → Prop where
  | bool (t : Nat) (b : Bool) : P.underlying t = some .bool → TyD P t [.bool b]
  | int (t : Nat) (k : IntKind) (n : Int) : P.underlying t = some (.int k) → k.min ≤ n → n ≤ k.max → TyD P t [.int k n]
  | str (t : Nat) (s : List UInt8) : P.underlying t = some .string → s.length ≤ reachBytes → TyD P t [.str s]
  | sl (t e : Nat) (es : List DV) : P.underlying t = some (.slice e) → es.length * P.bytesOf e ≤ reachBytes → es.length ≤ maxLen → (∀ x, x ∈ es → TyD P e (dcells x)) → (∀ x, x ∈ es → isAggD x = aggT P e) → TyD P t [.sl (P.cellsOf e) es]
  | struct (t : Nat) (fs : Array Field) (cs : List DV) : P.underlying t = some (.struct fs) → TyDs P (fs.toList.map (·.type)) cs → TyD P t cs
/-- The cells of fields, one behind the other. -/
inductive TyDs (P : Program) : List Nat → List DV → Prop where
  | nil : TyDs P [] []
  | cons (t : Nat) (ts : List Nat) (c r : List DV) : TyD P t c → TyDs P ts r → TyDs P (t :: ts) (c ++ r)
end

/-- A value of a type. -/
def ElD (P : Program) (t : Nat) (x : DV) : Prop := TyD P t (dcells x) ∧ isAggD x = aggT P t

mutual
/-- How many values and letters a datum holds. -/
def bulkW {H : Type} : DataW H → Nat
  | .lit (.string bytes) => bytes.length + 1
  | .lit _ => 1
  | .nil => 1
  | .ptr d => bulkW d + 1
  | .slice elems spare => bulkWs elems + bulkWs spare + 1
  | .agg parts => bulkWs parts + 1
  | .iface _ d => bulkW d + 1
  | .map entries => bulkWe entries + 1
  | .held _ => 1
def bulkWs {H : Type} : List (DataW H) → Nat
  | [] => 0
  | d :: r => bulkW d + bulkWs r
def bulkWe {H : Type} : List (Lit × DataW H) → Nat
  | [] => 0
  | x :: r => bulkW1 x + bulkWe r
def bulkW1 {H : Type} : Lit × DataW H → Nat
  | (.string bytes, d) => bytes.length + bulkW d + 1
  | (_, d) => bulkW d + 1
end

mutual
def bulkD : DV → Nat
  | .int _ _ => 1
  | .bool _ => 1
  | .str s => s.length + 1
  | .raw _ => 1
  | .agg cs => bulkDs cs + 1
  | .sl _ es => bulkDs es + 1
def bulkDs : List DV → Nat
  | [] => 0
  | d :: r => bulkD d + bulkDs r
end
theorem bulkDs_app : ∀ (a b : List DV), bulkDs (a ++ b) = bulkDs a + bulkDs b
  | [], b => by simp [bulkDs]
  | d :: a, b => by simp [bulkDs, bulkDs_app a b, Nat.add_assoc]
/-- Lists of equal length, part by part. -/
theorem bulk_list {H : Type} {α : Type} {f : DataW H × α → Nat} : ∀ (ds : List DV) (xs : List (DataW H × α)), ds.length = xs.length → (∀ (i : Nat) (d : DV) (x : DataW H × α), ds[i]? = some d → xs[i]? = some x → bulkD d ≤ bulkW x.1) → bulkDs ds ≤ bulkWs (xs.map (·.1))
  | [], [], _, _ => by simp [bulkDs, bulkWs]
  | d :: ds, x :: xs, hl, h => by
    have h1 := h 0 d x rfl rfl
    have h2 := bulk_list (f := f) ds xs (by simpa using hl) (fun i d x hd hx => h (i + 1) d x hd hx)
    simp only [bulkDs, bulkWs, List.map_cons]; omega

def tilesB (P : Program) : List Field → Nat → Option Nat
  | [], o => some o
  | f :: r, o => if f.offset = o then tilesB P r (o + P.cellsOf f.type) else none

/-- Types of whole numbers, bools, strings, slices and structs. -/
def plainTy (P : Program) : Nat → Nat → Bool
  | 0, _ => false
  | n + 1, t => match P.underlying t with
    | some .bool => true
    | some (.int _) => true
    | some .string => true
    | some (.slice e) => plainTy P n e && decide (0 < P.cellsOf e)
    | some (.struct fs) => (fs.toList.all fun f => plainTy P n f.type) && (tilesB P fs.toList 0 == some (P.cellsOf t))
    | _ => false

theorem tilesB_le {P : Program} : ∀ (fl : List Field) (o tot : Nat), tilesB P fl o = some tot → o ≤ tot ∧ ∀ f ∈ fl, o ≤ f.offset ∧ f.offset + P.cellsOf f.type ≤ tot
  | [], o, tot, h => by cases h; exact ⟨Nat.le_refl _, by simp⟩
  | f :: r, o, tot, h => by
    unfold tilesB at h
    split at h
    · rename_i ho
      obtain ⟨h1, h2⟩ := tilesB_le r _ tot h
      refine ⟨by omega, fun g hg => ?_⟩
      rcases List.mem_cons.1 hg with rfl | hg
      · omega
      · have := h2 g hg; omega
    · cases h

theorem of_each {α : Type} {Q : Nat → α → Prop} : ∀ (n : Nat), (∀ i, i < n → ∃ x, Q i x) → ∃ xs : List α, xs.length = n ∧ ∀ i x, xs[i]? = some x → Q i x
  | 0, _ => ⟨[], rfl, by simp⟩
  | n + 1, h => by
    obtain ⟨xs, h1, h2⟩ := of_each n (fun i hi => h i (by omega))
    obtain ⟨x, hx⟩ := h n (by omega)
    refine ⟨xs ++ [x], by simp [h1], fun i y hy => ?_⟩
    by_cases hi : i < xs.length
    · rw [List.getElem?_append_left hi] at hy; exact h2 i y hy
    · rw [List.getElem?_append_right (by omega)] at hy
      have : i - xs.length = 0 := by
        have := (List.getElem?_eq_some_iff.1 hy).1
        simp at this; omega
      rw [this] at hy
      cases hy
      have : i = n := by omega
      subst this; exact hx

section
variable {H : Type} {enc : TypeId × Value → H} {P : Program} {w : World} {base : Nat} {held : Bool}

def Opened (P : Program) (w : World) (t : Nat) (cs : List Value) (n : Nat) (ds : List DV) : Prop :=
  bulkDs ds + (if aggT P t = true then 1 else 0) ≤ n ∧ ds.length = cs.length ∧ TyD P t ds ∧ ∀ (j : Nat) (d : DV) (v : Value), ds[j]? = some d → cs[j]? = some v → RepD (stAll w) w d v

theorem open_fields {cs : List Value} : ∀ (fl : List Field) (xs : List (DataW H × List MemPlace)) (o tot : Nat), tilesB P fl o = some tot → tot ≤ cs.length → xs.length = fl.length →
    (∀ (i : Nat) f x, fl[i]? = some f → xs[i]? = some x → ∃ ds, Opened P w f.type ((cs.drop f.offset).take (P.cellsOf f.type)) (bulkW x.1) ds) →
    ∃ ds, bulkDs ds ≤ bulkWs (xs.map (·.1)) ∧ o + ds.length = tot ∧ TyDs P (fl.map (·.type)) ds ∧ ∀ (j : Nat) (d : DV) (v : Value), ds[j]? = some d → cs[o + j]? = some v → RepD (stAll w) w d v
  | [], _, o, tot, ht, _, _, _ => by cases ht; exact ⟨[], by simp [bulkDs], rfl, .nil, by simp⟩
  | f :: r, [], o, tot, ht, hl, hxl, h => by simp at hxl
  | f :: r, x :: xs, o, tot, ht, hl, hxl, h => by
    have hle := (tilesB_le (f :: r) o tot ht).2 f (by simp)
    unfold tilesB at ht
    split at ht
    · rename_i ho
      subst ho
      obtain ⟨ds, h0', h1, h2, h3⟩ := h 0 f x rfl rfl
      have h0 : bulkDs ds ≤ bulkW x.1 := by omega
      obtain ⟨es, g0, g1, g2, g3⟩ := open_fields r xs _ tot ht hl (by simpa using hxl) (fun i g y hg hy => h (i + 1) g y hg hy)
      have hlen : ds.length = P.cellsOf f.type := by rw [h1]; simp; omega
      refine ⟨ds ++ es, by rw [bulkDs_app]; simp only [List.map_cons, bulkWs]; omega, by simp; omega, .cons _ _ _ _ h2 g2, fun j d v hd hv => ?_⟩
      by_cases hj : j < ds.length
      · rw [List.getElem?_append_left hj] at hd
        refine h3 j d v hd ?_
        rw [List.getElem?_take_of_lt (by omega), List.getElem?_drop]; exact hv
      · rw [List.getElem?_append_right (by omega)] at hd
        refine g3 (j - ds.length) d v hd ?_
        rw [← hv]; congr 1; omega
    · cases ht

theorem cells?_get {a : Addr} {n : Nat} {cs : List Value} (h : w.cells? base a n = some cs) : cs.length = n ∧ ∀ i, i < n → w.cell? (a.add i) = cs[i]? := by
  unfold World.cells? at h
  split at h
  · refine ⟨by simpa using mapM_some_length h, fun i hi => ?_⟩
    have := mapM_some_get h i i (by simp [hi])
    exact this
  · cases h

theorem open_trod : ∀ (m t n : Nat) (cs : List Value) (x : DataW H × List MemPlace), plainTy P m t = true → DataW.trod enc P w base (fun _ => true) held n t cs = some x → (∀ k ∈ x.1.weights P t, k ≤ reachBytes) → ∃ ds, Opened P w t cs (bulkW x.1) ds
  | 0, t, n, cs, x, hp, _, _ => by cases hp
  | m + 1, t, n, cs, x, hp, h, hw => by
    unfold plainTy at hp
    split at hp
    · rename_i hu
      obtain ⟨b, rfl, rfl⟩ := DataW.trod_bool hu h
      refine ⟨[.bool b], by simp [bulkDs, bulkD, bulkW, aggT, hu], rfl, .bool t b hu, fun j d v hd hv => ?_⟩
      cases j with
      | zero => cases hd; cases hv; exact .bool b
      | succ j => cases hd
    · rename_i k hu
      obtain ⟨z, rfl, rfl, hz⟩ := DataW.trod_int hu h
      simp only [Lit.wf, Bool.and_eq_true, decide_eq_true_eq] at hz
      refine ⟨[.int k z], by simp [bulkDs, bulkD, bulkW, aggT, hu], rfl, .int t k z hu hz.1 hz.2, fun j d v hd hv => ?_⟩
      cases j with
      | zero => cases hd; cases hv; exact .int k z
      | succ j => cases hd
    · rename_i hu
      obtain ⟨s, rfl, rfl, hs⟩ := DataW.trod_string hu h
      refine ⟨[.str s.data.toList], by simp [bulkDs, bulkD, bulkW, aggT, hu], rfl, .str t _ hu (hw _ (by simp [DataW.weights])), fun j d v hd hv => ?_⟩
      cases j with
      | zero =>
        cases hd; cases hv
        have : (⟨s.data.toList.toArray⟩ : ByteArray) = s := by cases s; simp
        have h := RepD.str (st := stAll w) (w := w) s.data.toList
        rwa [this] at h
      | succ j => cases hd
    · rename_i e hu
      simp only [Bool.and_eq_true, decide_eq_true_eq] at hp
      obtain ⟨hpe, hz⟩ := hp
      rcases DataW.trod_slice hu h with ⟨rfl, rfl⟩ | ⟨a, len, cap, elems, rest, n', rfl, rfl, rfl, hb, hl, hc, hel, hall, hsp, _⟩
      · refine ⟨[.sl (P.cellsOf e) []], by simp [bulkDs, bulkD, bulkW, aggT, hu], rfl, .sl t e [] hu (by simp) (by simp) (by simp) (by simp), fun j d v hd hv => ?_⟩
        cases j with
        | zero => cases hd; cases hv; exact .emp _ _
        | succ j => cases hd
      · obtain ⟨hrl, hrest⟩ := hsp rfl
        simp only [DataW.weights, hu] at hw
        have hw0 := hw _ (List.mem_cons_self ..)
        have hwe : ∀ (i : Nat) (y : DataW H × List MemPlace), elems[i]? = some y → ∀ k ∈ y.1.weights P e, k ≤ reachBytes := by
          intro i y hy k hk
          refine hw k (List.mem_cons_of_mem _ (List.mem_append_left _ ?_))
          have hm : y.1 ∈ elems.map (·.1) := List.mem_map.2 ⟨y, List.mem_of_getElem? hy, rfl⟩
          clear hw0 hw hall hel hrl hrest
          generalize elems.map (·.1) = l at hm
          induction l with
          | nil => cases hm
          | cons q l ih =>
            simp only [DataW.weightsAll, List.mem_append]
            rcases List.mem_cons.1 hm with rfl | hm
            · exact .inl hk
            · exact .inr (ih hm)
        have hspot : 0 < cap → a.spot = none := by
          intro h0
          have : ∃ y, w.cells? base (a.add 0) (P.cellsOf e) = some y := by
            by_cases hl0 : 0 < len
            · have := hall 0 hl0
              rw [Nat.zero_mul] at this
              have hlt : 0 < elems.length := by omega
              rw [List.getElem?_eq_getElem hlt, Option.bind_eq_some_iff] at this
              exact ⟨_, this.choose_spec.1⟩
            · have := hrest 0 (by omega)
              have hlt : 0 < rest.length := by omega
              rw [List.getElem?_eq_getElem hlt, Option.bind_eq_some_iff] at this
              obtain ⟨y, hy, _⟩ := this
              have e0 : (len + 0) * P.cellsOf e = 0 := by have : len = 0 := by omega
                                                          simp [this]
              rw [e0] at hy
              exact ⟨y, hy⟩
          obtain ⟨y, hy⟩ := this
          obtain ⟨y1, y2⟩ := cells?_get hy
          have := y2 0 hz
          rw [List.getElem?_eq_getElem (by omega)] at this
          cases hs : a.spot with
          | none => rfl
          | some q =>
            exfalso
            simp only [Addr.add, World.cell?, hs] at this
            split at this <;> simp_all
        obtain ⟨es, el, eq⟩ := of_each (α := DV) (Q := fun i d => (∀ y, elems[i]? = some y → bulkD d ≤ bulkW y.1) ∧ ElD P e d ∧ (dcells d).length = P.cellsOf e ∧ ∀ (j : Nat) (dd : DV), (dcells d)[j]? = some dd → ∃ v, w.cell? ⟨a.block, a.off + (i * P.cellsOf e + j), none⟩ = some v ∧ RepD (stAll w) w dd v) len (fun i hi => by
          have h1 := hall i hi
          have hlt : i < elems.length := by omega
          have hy := List.getElem?_eq_getElem hlt
          rw [hy, Option.bind_eq_some_iff] at h1
          obtain ⟨cs', h2, h3⟩ := h1
          obtain ⟨ds, o0, o1, o2, o3⟩ := open_trod m e n' cs' _ hpe h3 (hwe i _ hy)
          obtain ⟨c1, c2⟩ := cells?_get h2
          have hsp := hspot (by omega)
          have key : ∀ (j : Nat) (dd : DV), ds[j]? = some dd → ∃ v, w.cell? ⟨a.block, a.off + (i * P.cellsOf e + j), none⟩ = some v ∧ RepD (stAll w) w dd v := by
            intro j dd hj
            have hjl : j < cs'.length := by rw [← o1]; exact (List.getElem?_eq_some_iff.1 hj).1
            have := c2 j (by omega)
            rw [List.getElem?_eq_getElem hjl] at this
            refine ⟨_, ?_, o3 j dd _ hj (List.getElem?_eq_getElem hjl)⟩
            rw [← this]
            obtain ⟨ab, ao, as⟩ := a
            cases hsp
            rw [add_at, add_at, Nat.add_assoc]
          by_cases hag : aggT P e = true
          · exact ⟨.agg ds, fun y hy' => by (rw [hy] at hy'; cases hy'; rw [if_pos hag] at o0; simpa only [bulkD] using o0), ⟨o2, by simp [isAggD, hag]⟩, by rw [← c1, ← o1]; rfl, key⟩
          · have hag : aggT P e = false := by simpa using hag
            have hone : ∃ d, ds = [d] ∧ isAggD d = false := by
              cases o2 with
              | bool => exact ⟨_, rfl, rfl⟩
              | int => exact ⟨_, rfl, rfl⟩
              | str => exact ⟨_, rfl, rfl⟩
              | sl => exact ⟨_, rfl, rfl⟩
              | struct _ fs _ hu' _ => simp [aggT, hu'] at hag
            obtain ⟨d, rfl, hd⟩ := hone
            have hdc : dcells d = [d] := by cases d <;> first | rfl | cases hd
            exact ⟨d, fun y hy' => by (rw [hy] at hy'; cases hy'; rw [if_neg (by rw [hag]; exact Bool.false_ne_true)] at o0; simpa only [bulkDs, Nat.add_zero] using o0), ⟨by rw [hdc]; exact o2, by rw [hd, hag]⟩, by rw [hdc, ← c1, ← o1], by rw [hdc]; exact key⟩)
        have hmem : ∀ x, x ∈ es → ElD P e x := fun x hx => by
          obtain ⟨i, hi⟩ := List.getElem?_of_mem hx
          exact (eq i x hi).2.1
        have hbulk : bulkDs es ≤ bulkWs (elems.map (·.1)) := bulk_list (f := fun _ => 0) es elems (by omega) (fun i d x hd hx => (eq i d hd).1 x hx)
        refine ⟨[.sl (P.cellsOf e) es], by simp [bulkDs, bulkD, bulkW, aggT, hu]; omega, rfl, .sl t e es hu ?_ (by omega) (fun x hx => (hmem x hx).1) (fun x hx => (hmem x hx).2), fun j d v hd hv => ?_⟩
        · refine Nat.le_trans (Nat.mul_le_mul_right _ ?_) hw0
          simp; omega
        · cases j with
          | zero =>
            cases hd; cases hv
            by_cases hcap : cap = 0
            · subst hcap
              have : es = [] := List.length_eq_zero_iff.1 (by omega)
              subst this
              have : len = 0 := by omega
              subst this
              exact .emp _ _
            · have hsp := hspot (by omega)
              obtain ⟨ab, ao, as⟩ := a
              cases hsp
              rw [← el]
              refine .sl _ es ab ao cap (fun i j => (w.cell? ⟨ab, ao + (i * P.cellsOf e + j), none⟩).getD undef) (by omega) hc (fun i d hd => (eq i d hd).2.2.1) (fun i d hd j dd hj => ?_) (fun i d hd j dd hj => ?_)
              · obtain ⟨v, v1, v2⟩ := (eq i d hd).2.2.2 j dd hj
                refine ⟨?_, by rw [v1]; rfl⟩
                unfold World.cell? at v1
                split at v1
                · rename_i c _ _ hb
                  exact (Array.getElem?_eq_some_iff.1 hb).1
                · cases v1
              · obtain ⟨v, v1, v2⟩ := (eq i d hd).2.2.2 j dd hj
                rw [v1]; exact v2
          | succ j => cases hd
    · rename_i fs hu
      simp only [Bool.and_eq_true, beq_iff_eq] at hp
      obtain ⟨hpf, ht⟩ := hp
      obtain ⟨xs, n', rfl, rfl, hl, hlen, hat⟩ := DataW.trod_struct hu h
      obtain ⟨ds, d0, d1, d2, d3⟩ := open_fields (w := w) (cs := cs) fs.toList xs 0 _ ht (by omega) (by simpa using hlen) (fun i f x hi hx => by
        have hi' : fs[i]? = some f := by simpa using hi
        have h1 := hat i f hi'
        rw [hx] at h1
        refine open_trod m f.type n' _ _ (List.all_eq_true.1 hpf f (List.mem_of_getElem? hi)) h1 (fun k hk => hw k ?_)
        simp only [DataW.weights, hu]
        exact DataW.weights_mem_each (j := i) (t := f.type) (d := x.1) (by rw [List.getElem?_map, hi]; rfl) (by rw [List.getElem?_map, hx]; rfl) k hk)
      exact ⟨ds, by simp only [bulkW, aggT, hu, if_true]; omega, by omega, .struct t fs ds hu d2, fun j d v hd hv => d3 j d v hd (by rw [Nat.zero_add]; exact hv)⟩
    · cases hp

theorem open_arg {m t : Nat} {v : Value} {d : DataW H} {ps : List MemPlace} {r : Reach} {b0 : Nat} (hp : plainTy P m t = true) (hok : Value.okWide P w r b0 t v) (h : DataW.Trod enc P w base (fun _ => true) held t v d ps) (hw : ∀ k ∈ d.weights P t, k ≤ reachBytes) :
    ∃ x : DV, bulkD x ≤ bulkW d ∧ ElD P t x ∧ RepA (gh0 (stAll w)) w (toAV x) v := by
  obtain ⟨fuel, hf⟩ := h
  obtain ⟨ds, o0, o1, o2, o3⟩ := open_trod m t fuel _ _ hp hf hw
  have hone : ∀ d0, ds = [d0] → isAggD d0 = false → aggT P t = false → v.cells.toList = [v] → ∃ x : DV, bulkD x ≤ bulkW d ∧ ElD P t x ∧ RepA (gh0 (stAll w)) w (toAV x) v := by
    rintro d' rfl hd hag hv
    have hdc : dcells d' = [d'] := by cases d' <;> first | rfl | cases hd
    rw [hag] at o0
    exact ⟨d', by simpa [bulkDs] using o0, ⟨by rw [hdc]; exact o2, by rw [hd, hag]⟩, RepD.toA (o3 0 d' v rfl (by rw [hv]; rfl))⟩
  cases o2 with
  | bool _ b hu => obtain ⟨_, rfl⟩ := okWide_bool hu hok; exact hone _ rfl rfl (by simp [aggT, hu]) rfl
  | int _ k z hu _ _ => obtain ⟨_, rfl⟩ := okWide_int hu hok; exact hone _ rfl rfl (by simp [aggT, hu]) rfl
  | str _ s hu _ => obtain ⟨_, rfl⟩ := okWide_string hu hok; exact hone _ rfl rfl (by simp [aggT, hu]) rfl
  | sl _ e es hu _ _ _ _ => obtain ⟨_, _, _, rfl⟩ := okWide_slice hu hok; exact hone _ rfl rfl (by simp [aggT, hu]) rfl
  | struct _ fs _ hu hd =>
    obtain ⟨cs, rfl, hsz⟩ := okWide_struct hu hok
    have hag : aggT P t = true := by simp [aggT, hu]
    rw [if_pos hag] at o0
    refine ⟨.agg ds, by simpa only [bulkD] using o0, ⟨.struct t fs ds hu hd, by simp [isAggD, aggT, hu]⟩, ?_⟩
    have hc : (Value.agg cs).cells.toList = cs.toList := rfl
    rw [hc] at o1 o3
    have hl := toAVs_length ds
    have hrep : ∀ (i : Nat) (c : AV) (v : Value), (toAVs ds)[i]? = some c → cs.toList[i]? = some v → RepA (gh0 (stAll w)) w c v := by
      intro i c v hcv hv
      rw [toAVs_get] at hcv
      cases hd : ds[i]? with
      | none => rw [hd] at hcv; cases hcv
      | some d =>
        rw [hd] at hcv
        cases hcv
        exact RepD.toA (o3 i d v hd hv)
    have := RepA.agg (G := gh0 (stAll w)) (w := w) (toAVs ds) cs.toList (by rw [hl, o1]) (fun v hv => by
      obtain ⟨i, hi⟩ := List.getElem?_of_mem hv
      have hil : i < ds.length := by rw [o1]; exact (List.getElem?_eq_some_iff.1 hi).1
      exact (o3 i _ v (List.getElem?_eq_getElem hil) hi).one) hrep
    simpa only [toAV, Array.toArray_toList] using this

/-- Values of types, one by one. -/
inductive ElDs (P : Program) : List Nat → List DV → Prop where
  | nil : ElDs P [] []
  | cons (t : Nat) (ts : List Nat) (x : DV) (xs : List DV) : ElD P t x → ElDs P ts xs → ElDs P (t :: ts) (x :: xs)

theorem open_args {m : Nat} {r : Reach} {b0 : Nat} : ∀ (ts : List Nat) (vs : List Value) (ds : List (DataW H)) (ps : List MemPlace), (ts.all (plainTy P m) = true) → (∀ (j : Nat) (t : Nat) (v : Value), ts[j]? = some t → vs[j]? = some v → Value.okWide P w r b0 t v) →
    DataW.TrodAll enc P w base (fun _ => true) held ts vs ds ps → (∀ k ∈ DataW.weightsEach P ts ds, k ≤ reachBytes) → ∃ xs, bulkDs xs ≤ bulkWs ds ∧ ElDs P ts xs ∧ RepArgs (gh0 (stAll w)) w (xs.map toAV) vs
  | [], vs, ds, ps, _, _, h, _ => by
    obtain ⟨rfl, rfl, rfl⟩ := trodAll_nil h
    exact ⟨[], by simp [bulkDs], .nil, rfl, by simp⟩
  | t :: ts, vs, ds, ps, hp, hok, h, hw => by
    obtain ⟨v, vs', d, ds', p, q, rfl, rfl, rfl, h1, h2⟩ := trodAll_cons h
    simp only [List.all_cons, Bool.and_eq_true] at hp
    simp only [DataW.weightsEach, List.mem_append] at hw
    obtain ⟨x, b1, e1, e2⟩ := open_arg hp.1 (hok 0 t v rfl rfl) h1 (fun k hk => hw k (.inl hk))
    obtain ⟨xs, b2, e3, e4, e5⟩ := open_args ts vs' ds' q hp.2 (fun j t v ht hv => hok (j + 1) t v ht hv) h2 (fun k hk => hw k (.inr hk))
    refine ⟨x :: xs, by simp only [bulkDs, bulkWs]; omega, .cons _ _ _ _ e1 e3, by simpa using e4, fun i a v ha hv => ?_⟩
    cases i with
    | zero => cases ha; cases hv; exact e2
    | succ i => exact e5 i a v ha hv

/-- Arguments read after a call that wrote nothing old as they did before. -/
theorem args_stay (hl : laidOutB P = true) {w' : World} (hb : Below w.heap.size w w') : ∀ (ts : List Nat) (vs : List Value) (ds : List (DataW H)) (ps : List MemPlace), (ts.all fun t => P.readableRec t && decide (t < P.types.size)) = true →
    DataW.TrodAll enc P w 0 (fun _ => true) true ts vs ds ps → DataW.TrodAll enc P w' 0 (fun b => decide (b < w.heap.size)) true ts vs ds ps
  | [], vs, ds, ps, _, h => by
    obtain ⟨rfl, rfl, rfl⟩ := trodAll_nil h
    exact trodAll_mk0
  | t :: ts, vs, ds, ps, hr, h => by
    obtain ⟨v, vs', d, ds', p, q, rfl, rfl, rfl, h1, h2⟩ := trodAll_cons h
    simp only [List.all_cons, Bool.and_eq_true, decide_eq_true_eq] at hr
    have k1 := h1
    have lt : ∀ x ∈ p, x.block < w.heap.size := by obtain ⟨m, hm⟩ := k1; exact DataW.trod_lt m _ _ _ hm
    exact trodAll_cons_mk (Below.trod hl hr.1.1 hr.1.2 h1 hb lt) (args_stay hl hb ts vs' ds' q hr.2 h2)
end

theorem below_of {st : Nat → Nat → Prop} {w w' : World} {G : Gh} {m : AH} (h : Inv ⟨w, fun _ => False, gh0 st, none, [], []⟩ G m w') : Below w.heap.size w w' :=
  ⟨h.kept.os, h.kept.tape, h.kept.output, h.kept.size, fun k hk => h.kept.block k hk (fun x => x)⟩

section
variable {P : Program} {t : Nat} {x : DV} {cs : List DV}
theorem ElDs.cons_inv {ts : List Nat} {xs : List DV} (h : ElDs P (t :: ts) xs) : ∃ x ys, xs = x :: ys ∧ ElD P t x ∧ ElDs P ts ys := by
  cases h with
  | cons _ _ x ys h1 h2 => exact ⟨x, ys, rfl, h1, h2⟩
theorem ElDs.nil_inv {xs : List DV} (h : ElDs P [] xs) : xs = [] := by cases h; rfl

theorem TyD.one (h : TyD P t cs) (ha : aggT P t = false) : ∃ x, cs = [x] ∧ ElD P t x := by
  have hd : ∀ x, cs = [x] → isAggD x = false → ∃ x, cs = [x] ∧ ElD P t x := by
    rintro x rfl hx
    have hdc : dcells x = [x] := by cases x <;> first | rfl | cases hx
    exact ⟨x, rfl, by rw [ElD, hdc]; exact ⟨h, by rw [hx, ha]⟩⟩
  cases h with
  | bool => exact hd _ rfl rfl
  | int => exact hd _ rfl rfl
  | str => exact hd _ rfl rfl
  | sl => exact hd _ rfl rfl
  | struct _ fs _ hu _ => simp [aggT, hu] at ha

theorem ElD.cells1 (h : ElD P t x) (ha : aggT P t = false) : TyD P t [x] := by
  obtain ⟨h1, h2⟩ := h
  rw [ha] at h2
  have hdc : dcells x = [x] := by cases x <;> first | rfl | cases h2
  rwa [hdc] at h1

theorem TyD.int_inv {k : IntKind} (hu : P.underlying t = some (.int k)) (h : TyD P t cs) : ∃ n, cs = [.int k n] ∧ k.min ≤ n ∧ n ≤ k.max := by
  cases h with
  | int _ k' n hu' h1 h2 => rw [hu] at hu'; cases hu'; exact ⟨n, rfl, h1, h2⟩
  | bool _ _ hu' => rw [hu] at hu'; cases hu'
  | str _ _ hu' => rw [hu] at hu'; cases hu'
  | sl _ _ _ hu' => rw [hu] at hu'; cases hu'
  | struct _ _ _ hu' => rw [hu] at hu'; cases hu'
theorem TyD.bool_inv (hu : P.underlying t = some .bool) (h : TyD P t cs) : ∃ b, cs = [.bool b] := by
  cases h with
  | bool _ b hu' => exact ⟨b, rfl⟩
  | int _ _ _ hu' => rw [hu] at hu'; cases hu'
  | str _ _ hu' => rw [hu] at hu'; cases hu'
  | sl _ _ _ hu' => rw [hu] at hu'; cases hu'
  | struct _ _ _ hu' => rw [hu] at hu'; cases hu'
theorem TyD.str_inv (hu : P.underlying t = some .string) (h : TyD P t cs) : ∃ s, cs = [.str s] ∧ s.length ≤ 140737488351232 := by
  cases h with
  | str _ s hu' h1 => exact ⟨s, rfl, h1⟩
  | bool _ b hu' => rw [hu] at hu'; cases hu'
  | int _ _ _ hu' => rw [hu] at hu'; cases hu'
  | sl _ _ _ hu' => rw [hu] at hu'; cases hu'
  | struct _ _ _ hu' => rw [hu] at hu'; cases hu'
theorem TyD.sl_inv {e z y : Nat} (hu : P.underlying t = some (.slice e)) (hz : P.cellsOf e = z) (hy : P.bytesOf e = y) (h : TyD P t cs) : ∃ es, cs = [.sl z es] ∧ es.length * y ≤ 140737488351232 ∧ ∀ x ∈ es, ElD P e x := by
  subst hz hy
  cases h with
  | sl _ _ es hu' h1 _ h3 h4 => rw [hu] at hu'; cases hu'; exact ⟨es, rfl, h1, fun x hx => ⟨h3 x hx, h4 x hx⟩⟩
  | bool _ b hu' => rw [hu] at hu'; cases hu'
  | int _ _ _ hu' => rw [hu] at hu'; cases hu'
  | str _ _ hu' => rw [hu] at hu'; cases hu'
  | struct _ _ _ hu' => rw [hu] at hu'; cases hu'
theorem TyD.struct_inv {fs : Array Field} {ts : List Nat} (hu : P.underlying t = some (.struct fs)) (hts : fs.toList.map (·.type) = ts) (h : TyD P t cs) : TyDs P ts cs := by
  subst hts
  cases h with
  | struct _ _ _ hu' h1 => rw [hu] at hu'; cases hu'; exact h1
  | bool _ b hu' => rw [hu] at hu'; cases hu'
  | int _ _ _ hu' => rw [hu] at hu'; cases hu'
  | str _ _ hu' => rw [hu] at hu'; cases hu'
  | sl _ _ _ hu' => rw [hu] at hu'; cases hu'
theorem TyDs.cons_inv {ts : List Nat} (h : TyDs P (t :: ts) cs) : ∃ c r, cs = c ++ r ∧ TyD P t c ∧ TyDs P ts r := by
  cases h with
  | cons _ _ c r h1 h2 => exact ⟨c, r, rfl, h1, h2⟩
theorem TyDs.nil_inv (h : TyDs P [] cs) : cs = [] := by cases h; rfl
theorem ElD.agg_inv {fs : Array Field} {ts : List Nat} (hu : P.underlying t = some (.struct fs)) (hts : fs.toList.map (·.type) = ts) (h : ElD P t x) : ∃ cs, x = .agg cs ∧ TyDs P ts cs := by
  obtain ⟨h1, h2⟩ := h
  have ha : aggT P t = true := by simp [aggT, hu]
  rw [ha] at h2
  cases x with
  | agg cs => exact ⟨cs, rfl, h1.struct_inv hu hts⟩
  | _ => cases h2
theorem ElD.int_inv {k : IntKind} (hu : P.underlying t = some (.int k)) (h : ElD P t x) : ∃ n, x = .int k n ∧ k.min ≤ n ∧ n ≤ k.max := by
  obtain ⟨n, h1, h2⟩ := (h.cells1 (by simp [aggT, hu])).int_inv hu
  cases h1; exact ⟨n, rfl, h2⟩
theorem ElD.bool_inv (hu : P.underlying t = some .bool) (h : ElD P t x) : ∃ b, x = .bool b := by
  obtain ⟨n, h1⟩ := (h.cells1 (by simp [aggT, hu])).bool_inv hu
  cases h1; exact ⟨n, rfl⟩
theorem ElD.str_inv (hu : P.underlying t = some .string) (h : ElD P t x) : ∃ s, x = .str s ∧ s.length ≤ 140737488351232 := by
  obtain ⟨n, h1, h2⟩ := (h.cells1 (by simp [aggT, hu])).str_inv hu
  cases h1; exact ⟨n, rfl, h2⟩
theorem ElD.sl_inv {e z y : Nat} (hu : P.underlying t = some (.slice e)) (hz : P.cellsOf e = z) (hy : P.bytesOf e = y) (h : ElD P t x) : ∃ es, x = .sl z es ∧ es.length * y ≤ 140737488351232 ∧ ∀ x ∈ es, ElD P e x := by
  obtain ⟨n, h1, h2⟩ := (h.cells1 (by simp [aggT, hu])).sl_inv hu hz hy
  cases h1; exact ⟨n, rfl, h2⟩
end

/-- Elements of one shape. -/
theorem map_of_each {α : Type} {f : α → DV} {p : α → Prop} : ∀ (es : List DV), (∀ x ∈ es, ∃ a, x = f a ∧ p a) → ∃ as : List α, es = as.map f ∧ ∀ a ∈ as, p a
  | [], _ => ⟨[], rfl, by simp⟩
  | x :: es, h => by
    obtain ⟨a, ha, hp⟩ := h x (by simp)
    obtain ⟨as, h1, h2⟩ := map_of_each es (fun y hy => h y (by simp [hy]))
    refine ⟨a :: as, by simp [ha, h1], fun b hb => ?_⟩
    rcases List.mem_cons.1 hb with rfl | hb
    · exact hp
    · exact h2 b hb

/-- How many whole numbers a type is made of, if of nothing else. -/
def leafI (P : Program) : Nat → Nat → Option Nat
  | 0, _ => none
  | m + 1, t => match P.underlying t with
    | some (.int .i64) => some 1
    | some (.struct fs) => leafIs (leafI P m) (fs.toList.map (·.type))
    | _ => none
where leafIs (f : Nat → Option Nat) : List Nat → Option Nat
  | [] => some 0
  | t :: ts => match f t, leafIs f ts with
    | some a, some b => some (a + b)
    | _, _ => none

def inR (n : Int) : Prop := -9223372036854775808 ≤ n ∧ n ≤ 9223372036854775807

theorem TyDs.ints {P : Program} {f : Nat → Option Nat} (hf : ∀ t n cs, f t = some n → TyD P t cs → ∃ ns : List Int, ns.length = n ∧ cs = ns.map (DV.int .i64) ∧ ∀ x ∈ ns, inR x) :
    ∀ (ts : List Nat) (n : Nat) (cs : List DV), leafI.leafIs f ts = some n → TyDs P ts cs → ∃ ns : List Int, ns.length = n ∧ cs = ns.map (DV.int .i64) ∧ ∀ x ∈ ns, inR x
  | [], n, cs, h, hc => by cases h; exact ⟨[], rfl, hc.nil_inv, by simp⟩
  | t :: ts, n, cs, h, hc => by
    unfold leafI.leafIs at h
    split at h
    · rename_i a b ha hb
      cases h
      obtain ⟨c, r, rfl, h1, h2⟩ := hc.cons_inv
      obtain ⟨ns, n1, n2, n3⟩ := hf t a c ha h1
      obtain ⟨ms, m1, m2, m3⟩ := TyDs.ints hf ts b r hb h2
      refine ⟨ns ++ ms, by simp [n1, m1], by simp [n2, m2], fun x hx => ?_⟩
      rcases List.mem_append.1 hx with hx | hx
      · exact n3 x hx
      · exact m3 x hx
    · cases h

theorem TyD.ints {P : Program} : ∀ (m t n : Nat) (cs : List DV), leafI P m t = some n → TyD P t cs → ∃ ns : List Int, ns.length = n ∧ cs = ns.map (DV.int .i64) ∧ ∀ x ∈ ns, inR x
  | 0, t, n, cs, h, _ => by cases h
  | m + 1, t, n, cs, h, hc => by
    unfold leafI at h
    split at h
    · rename_i hu
      cases h
      obtain ⟨z, rfl, h1, h2⟩ := hc.int_inv hu
      exact ⟨[z], rfl, rfl, by simp only [List.mem_singleton, forall_eq]; exact ⟨h1, h2⟩⟩
    · rename_i fs hu
      exact TyDs.ints (fun t n cs h hc => TyD.ints m t n cs h hc) _ n cs h (hc.struct_inv hu rfl)
    · cases h

theorem ElD.ints {P : Program} (m : Nat) {t n : Nat} {x : DV} (hn : leafI P m t = some n) (ha : aggT P t = true) (h : ElD P t x) : ∃ ns : List Int, ns.length = n ∧ x = .agg (ns.map (DV.int .i64)) ∧ ∀ x ∈ ns, inR x := by
  obtain ⟨h1, h2⟩ := h
  rw [ha] at h2
  cases x with
  | agg cs =>
    obtain ⟨ns, g1, g2, g3⟩ := TyD.ints m t n cs hn h1
    exact ⟨ns, g1, by rw [g2], g3⟩
  | _ => cases h2

theorem weights_app {H : Type} {P : Program} {ts' : List Nat} {ds' : List (DataW H)} : ∀ (ts : List Nat) (ds : List (DataW H)), ts.length = ds.length → ∀ k ∈ DataW.weightsEach P ts ds, k ∈ DataW.weightsEach P (ts ++ ts') (ds ++ ds')
  | [], ds, _, k, hk => by simp [DataW.weightsEach] at hk
  | t :: ts, [], _, k, hk => by simp [DataW.weightsEach] at hk
  | t :: ts, d :: ds, hl, k, hk => by
    simp only [DataW.weightsEach, List.mem_append, List.cons_append] at hk ⊢
    rcases hk with hk | hk
    · exact .inl hk
    · exact .inr (weights_app ts ds (by simpa using hl) k hk)

theorem trodAll_len {H : Type} {enc : TypeId × Value → H} {P : Program} {w : World} {base : Nat} {sp : Nat → Bool} {held : Bool} : ∀ (ts : List Nat) (vs : List Value) (ds : List (DataW H)) (ps : List MemPlace), DataW.TrodAll enc P w base sp held ts vs ds ps → ts.length = ds.length
  | [], vs, ds, ps, h => by obtain ⟨_, rfl, _⟩ := trodAll_nil h; rfl
  | t :: ts, vs, ds, ps, h => by
    obtain ⟨v, vs', d, ds', p, q, rfl, rfl, rfl, _, h2⟩ := trodAll_cons h
    simp [trodAll_len ts vs' ds' q h2]

/-- A call that reads all its arguments and answers true. -/
theorem PCall.run {P : Program} {f : Nat} {xs : List DV} {w : World} {vs : List Value} (h : PCall P f (xs.map toAV) (RV (.bool true))) (hl : Laid P w) (hr : RepArgs (gh0 (stAll w)) w (xs.map toAV) vs) :
    Calls P f vs.toArray w fun e w' => e = .returned (.bool true) ∧ Below w.heap.size w w' := by
  unfold PCall at h
  refine (h (stAll w) w vs hl (fun _ _ x => x) hr).mono ?_
  rintro e w' ⟨v, r, G', m', rfl, g1, g2, _, rfl⟩
  cases g2
  exact ⟨rfl, below_of g1⟩

end Go.AB

/- Loops round by round; numbers that are known. -/
namespace Go.AB

/-- A loop from a round's head on. -/
def LW (P : Program) (E : Env) (c : Code) (Q : Exit → AS → Prop) (σ : AS) : Prop :=
  TabsOk P E → ∀ A a w, Sub A E → St A σ a w → LoopAt P E.rd c (Lift E Q) a w

theorem LW_start {P : Program} {E : Env} {c : Code} {Q : Exit → AS → Prop} {σ : AS} (h : LW P E c Q σ) : AW P E (.loop c) Q σ := by
  unfold AW
  intro hT A a w hs hst
  exact (h hT A a w hs hst).start

theorem LW_round {P : Program} {E : Env} {c : Code} {Q : Exit → AS → Prop} {σ : AS} (h : exC P E c σ (thenQ (LW P E c Q) Q)) : LW P E c Q σ := by
  intro hT A a w hs hst
  have h := exC_ok c σ _ h
  unfold AW at h
  refine LoopAt.round (wpIn_mono (h hT A a w hs hst) ?_)
  rintro e a1 w1 ⟨A1, σ1, hs1, hst1, hq⟩
  cases e with
  | normal => exact hq hT A1 a1 w1 hs1 hst1
  | _ => exact ⟨A1, σ1, hs1, hst1, hq⟩

@[congr] theorem LW_congr {P : Program} {E : Env} {c : Code} {σ σ' : AS} {Q : Exit → AS → Prop} (h : σ = σ') : LW P E c Q σ = LW P E c Q σ' := by rw [h]
attribute [irreducible] LW

@[go_sem] theorem cast_lit (n : Nat) : ((no_index (OfNat.ofNat n) : Nat) : Int) = (OfNat.ofNat n : Int) := (rfl)

attribute [go_sem] Bool.not_eq_true' Bool.not_eq_false' Int.reduceEq Int.reduceNe Int.reduceTDiv Int.reduceTMod Int.reduceAdd Int.reduceSub Int.reduceMul Int.reduceToNat Int.reduceLT Int.reduceLE Int.reduceNeg Nat.reduceLT Int.toNat_natCast byteD List.length_map Nat.lt_irrefl Int.lt_irrefl decide_true decide_false

end Go.AB

/- Regions that draw their order, whose effects come last and in one order. -/
namespace Go.AB

/-- Earlier operations that an operation waits for, at once or through others. -/
inductive Anc (ops : Array Oper) : Nat → Nat → Prop where
  | one (j : Nat) (o : Oper) (e : Edge) : ops[j]? = some o → e ∈ o.after → Region.binds .any e = true → Anc ops j e.on
  | more (j i : Nat) (o : Oper) (e : Edge) : ops[j]? = some o → e ∈ o.after → Region.binds .any e = true → Anc ops e.on i → Anc ops j i

def ancStep (acc : List (List Nat)) (o : Oper) : List (List Nat) :=
  acc ++ [((o.after.toList.filter fun e => Region.binds .any e).flatMap fun e => e.on :: acc.getD e.on []).eraseDups]
def ancs (l : List Oper) : List (List Nat) := l.foldl ancStep []

theorem ancs_go {ops : Array Oper} : ∀ (l pre : List Oper) (acc : List (List Nat)), ops.toList = pre ++ l → acc.length = pre.length → (∀ j i, i ∈ acc.getD j [] → Anc ops j i) →
    ∀ j i, i ∈ (l.foldl ancStep acc).getD j [] → Anc ops j i
  | [], _, acc, _, _, h => h
  | o :: l, pre, acc, he, hl, h => by
    rw [List.foldl_cons]
    refine ancs_go l (pre ++ [o]) _ (by simp [he]) (by simp [ancStep, hl]) (fun j i hi => ?_)
    by_cases hj : j < acc.length
    · rw [ancStep, List.getD_eq_getElem?_getD, List.getElem?_append_left hj, ← List.getD_eq_getElem?_getD] at hi
      exact h j i hi
    · rw [ancStep, List.getD_eq_getElem?_getD, List.getElem?_append_right (by omega)] at hi
      by_cases hj2 : j - acc.length = 0
      · rw [hj2] at hi
        simp only [List.getElem?_cons_zero, Option.getD_some, List.mem_eraseDups, List.mem_flatMap, List.mem_filter, List.mem_cons] at hi
        have ho : ops[j]? = some o := by
          rw [← Array.getElem?_toList, he, List.getElem?_append_right (by omega)]
          rw [show j - pre.length = 0 by omega]; rfl
        obtain ⟨e, ⟨he1, he2⟩, rfl | hi⟩ := hi
        · exact .one j o e ho (by simpa using he1) he2
        · exact .more j i o e ho (by simpa using he1) he2 (h _ _ hi)
      · rw [List.getElem?_eq_none (by simp; omega)] at hi
        simp at hi

structure DrawOk2 (ops : Array Oper) (k : Nat) : Prop where
  back : ∀ (j : Nat) o, ops[j]? = some o → ∀ e ∈ o.after, Region.binds .any e = true → e.on < j
  apart : ∀ (i j : Nat) oi oj, i < j → j < k → ops[i]? = some oi → ops[j]? = some oj → (∃ e ∈ oj.after, Region.binds .any e = true ∧ e.on = i) ∨ oi.apart ops oj = true
  once : ∀ (i j : Nat) oi oj d, i ≠ j → ops[i]? = some oi → ops[j]? = some oj → oi.dst = some d → oj.dst ≠ some d

section
variable {P : Program} {E : Env} {ops : Array Oper} {vs : List AV} {σ0 : AS}

/-- What an operation waits for has been, when it has been. -/
theorem Anc.done {L : Array Bool} (hc : ∀ (j : Nat) o, ops[j]? = some o → L.getD j false = true → ∀ e ∈ o.after, Region.binds .any e = true → L.getD e.on false = true) {j i : Nat} (h : Anc ops j i) (hj : L.getD j false = true) : L.getD i false = true := by
  induction h with
  | one j o e ho he hb => exact hc j o ho hj e he hb
  | more j i o e ho he hb _ ih => exact ih (hc j o ho hj e he hb)

theorem Anc.ready {L : Array Bool} (hc : ∀ (j : Nat) o, ops[j]? = some o → L.getD j false = true → ∀ e ∈ o.after, Region.binds .any e = true → L.getD e.on false = true) {j i : Nat} {o : Oper} (h : Anc ops j i) (ho : ops[j]? = some o) (hr : ∀ e ∈ o.after, Region.binds .any e = true → L.getD e.on false = true) : L.getD i false = true := by
  cases h with
  | one _ o' e ho' he hb => rw [ho] at ho'; cases ho'; exact hr e he hb
  | more _ _ o' e ho' he hb h => rw [ho] at ho'; cases ho'; exact h.done hc (hr e he hb)

theorem count_set {L : Array Bool} {i : Nat} (hlt : i < L.size) (hun : L.getD i true = false) {fuel : Nat} (hc : (L.toList.filter (fun b => !b)).length ≤ fuel + 1) : ((L.setIfInBounds i true).toList.filter (fun b => !b)).length ≤ fuel := by
  have hf : L.toList[i]'(by simpa using hlt) = false := by
    simp only [Array.getD_eq_getD_getElem?, Array.getElem?_eq_getElem hlt, Option.getD_some] at hun
    simpa using hun
  have : (L.setIfInBounds i true).toList = L.toList.set i true := by simp
  rw [this]
  have e1 : ((L.toList.set i true).filter (fun b => !b)).length + 1 = (L.toList.filter (fun b => !b)).length := by
    rw [← List.countP_eq_length_filter, ← List.countP_eq_length_filter, List.countP_set (by simpa using hlt), hf]
    have : 0 < List.countP (fun b => !b) L.toList := List.countP_pos_iff.2 ⟨false, by rw [← hf]; exact List.getElem_mem _, rfl⟩
    simp only [Bool.not_false, Bool.not_true, if_true, Bool.false_eq_true, if_false]
    omega
  omega

theorem none_left {L : Array Bool} {i : Nat} (hlt : i < L.size) (hc : (L.toList.filter (fun b => !b)).length ≤ 0) : L.getD i false = true := by
  cases h : L.getD i false with
  | true => rfl
  | false =>
    have hm : false ∈ L.toList.filter (fun b => !b) := by
      simp only [Array.getD_eq_getD_getElem?, Array.getElem?_eq_getElem hlt, Option.getD_some] at h
      rw [List.mem_filter]
      exact ⟨by rw [← h]; simp, rfl⟩
    rw [List.eq_nil_of_length_eq_zero (Nat.le_zero.1 hc)] at hm
    cases hm

theorem undone {L : Array Bool} {i : Nat} (hun : L.getD i true = false) : L.getD i false = false ∧ i < L.size := by
  have hlt : i < L.size := by
    rcases Nat.lt_or_ge i L.size with h | h
    · exact h
    · simp [h] at hun
  refine ⟨?_, hlt⟩
  simp only [Array.getD_eq_getD_getElem?, Array.getElem?_eq_getElem hlt, Option.getD_some] at hun ⊢
  exact hun

end

def kDraw2 (P : Program) (ops : Array Oper) (rest : List Oper) (Q : Exit → AS → Prop) (τ : AS) : Prop := ∀ nx lv, τ.m.nx ≤ nx → (∀ j, τ.m.lv j → lv j) → exOps P ops rest ⟨τ.s, ⟨τ.m.h, τ.m.o, nx, lv⟩⟩ (Q .normal)
theorem kDraw2_eq {P : Program} {ops : Array Oper} {rest : List Oper} {Q : Exit → AS → Prop} {τ : AS} : kDraw2 P ops rest Q τ = (∀ nx lv, τ.m.nx ≤ nx → (∀ j, τ.m.lv j → lv j) → exOps P ops rest ⟨τ.s, ⟨τ.m.h, τ.m.o, nx, lv⟩⟩ (Q .normal)) := (rfl)
attribute [go_sem] kDraw2_eq
end Go.AB

/- Loops whose first rounds are walked one by one; results of the library's generic functions. -/
namespace Go.AB

end Go.AB

/- Regions that draw their order, in which variables are written while others are read. -/
namespace Go.AB

def evS (P : Program) (s : List AV) (ty : Nat) (x : Operand) : AV := AS.ev P ⟨s, emptyH⟩ ty x
/-- The state with another memory. -/
def swp (m : AH) (τ : AS) : AS := ⟨τ.s, ⟨m.h, m.o, τ.m.nx, τ.m.lv⟩⟩

/-- Operations that look at the memory by a load alone, and write nothing. -/
def swB : Op → Bool
  | .move _ | .assign _ | .pick .. | .build .. | .load .. | .nilCheck _ | .binOp .. | .unOp .. | .makeInterface .. | .fieldAddr .. | .field .. | .indexAddr .. | .index .. | .extract .. => true
  | .slice _ _ _ _ none => true
  | .convert .. => true
  | _ => false

/-- Who reads and who writes which variable. -/
abbrev Ac := List (Nat × Bool × Loc)

def sepL (eq : List (Nat × Nat)) (i : Nat) (l : Loc) : Ac → Prop
  | [] => True
  | (s, true, l') :: r => ((eq.any fun p => p.1 == i && p.2 == s) = true ∨ l' ≠ l) ∧ sepL eq i l r
  | (_, false, _) :: r => sepL eq i l r
def sepA (eq : List (Nat × Nat)) (all : Ac) : Ac → Prop
  | [] => True
  | (i, false, l) :: r => sepL eq i l all ∧ sepA eq all r
  | (_, true, _) :: r => sepA eq all r

def isSt : Op → Bool
  | .store .. => true
  | _ => false

def acOf (P : Program) (o : Oper) (i : Nat) (σ : AS) : Ac := match o.op with
  | .load _ a => match AS.ev P σ 0 a with
    | .ptr l _ => [(i, false, l)]
    | _ => []
  | .store _ a _ => match AS.ev P σ 0 a with
    | .ptr l _ => [(i, true, l)]
    | _ => []
  | _ => []

def kSt (f : AS → (Ac → AS → Prop) → Prop) (K : Ac → AS → Prop) (σ : AS) (m : AH) : Prop := f ⟨σ.s, m⟩ K
def kQu (f : AS → (Ac → AS → Prop) → Prop) (K : Ac → AS → Prop) (σ : AS) : Prop := f σ K

/-- The operations of a region in the order of the text, with what each reads and writes. -/
def exOpsS (P : Program) (ops : Array Oper) : List Oper → Nat → Ac → AS → (Ac → AS → Prop) → Prop
  | [], _, ac, σ, K => K ac σ
  | o :: r, i, ac, σ, K => match o.op with
    | .store t a x => o.guard = none ∧ o.dst = none ∧ exStore P σ.m t (AS.ev P σ 0 a) (AS.ev P σ t x) (kSt (exOpsS P ops r (i + 1) (acOf P o i σ ++ ac)) K σ)
    | _ => swB o.op = true ∧ exGD P ops o σ (kQu (exOpsS P ops r (i + 1) (acOf P o i σ ++ ac)) K)

def StepS (P : Program) (ops : Array Oper) (i : Nat) (o : Oper) (σ : AS) (v : AV) (σ' : AS) (ac : Ac) : Prop :=
  (isSt o.op = false ∧ swB o.op = true ∧ σ' = σ.put o.dst v ∧ YieldsA P ops o v σ ∧ ∀ t a l off, o.op = .load t a → evS P σ.s 0 a = .ptr l off → (i, false, l) ∈ ac) ∨
  (∃ t a x l off cs cs2, o.op = .store t a x ∧ o.guard = none ∧ o.dst = none ∧ evS P σ.s 0 a = .ptr l off ∧ (i, true, l) ∈ ac ∧ σ.m.cells l = some cs ∧ σ' = ⟨σ.s, σ.m.setCells l cs2⟩ ∧
    ∀ (m : AH) (K : AH → Prop), m.cells l = some cs → K (m.setCells l cs2) → exStore P m t (evS P σ.s 0 a) (evS P σ.s t x) K)

theorem Anc.lt {ops : Array Oper} (hback : ∀ (j : Nat) o, ops[j]? = some o → ∀ e ∈ o.after, Region.binds .any e = true → e.on < j) {j i : Nat} (h : Anc ops j i) : i < j := by
  induction h with
  | one j o e ho he hb => exact hback j o ho e he hb
  | more j i o e ho he hb _ ih => exact Nat.lt_trans ih (hback j o ho e he hb)

theorem puts_snoc {o : Oper} {v : AV} : ∀ (l : List Oper) (σ : AS) (vs : List AV), vs.length = l.length → puts σ (l ++ [o]) (vs ++ [v]) = (puts σ l vs).put o.dst v
  | [], σ, [], _ => by simp [puts]
  | [], σ, _ :: _, h => by simp at h
  | _ :: _, σ, [], h => by simp at h
  | a :: l, σ, b :: vs, h => by
    simp only [List.cons_append, puts]
    exact puts_snoc l _ vs (by simpa using h)

theorem put_s_congr {σ τ : AS} (h : σ.s = τ.s) (d : Option Nat) (v : AV) : (σ.put d v).s = (τ.put d v).s := by
  cases d <;> simp [AS.put, h]

/-- A run in the order of the text. -/
structure RunS (P : Program) (ops : Array Oper) (vs : List AV) (σ0 : AS) (f : Nat → AS) (ac : Ac) (eq : List (Nat × Nat)) : Prop where
  hd : DrawOk ops
  hl : vs.length = ops.size
  h0 : f 0 = σ0
  step : ∀ (i : Nat) (o : Oper) (v : AV), ops[i]? = some o → vs[i]? = some v → StepS P ops i o (f i) v (f (i + 1)) ac
  sep : sepA eq ac ac
  ord : ∀ i s, (i, s) ∈ eq → Anc ops i s ∨ Anc ops s i
  chain : ∀ (s s' : Nat) (o o' : Oper), s < s' → ops[s]? = some o → ops[s']? = some o' → isSt o.op = true → isSt o'.op = true → Anc ops s' s

section
variable {P : Program} {E : Env} {ops : Array Oper} {vs : List AV} {σ0 : AS} {f : Nat → AS} {ac : Ac} {eq : List (Nat × Nat)}

theorem RunS.val (R : RunS P ops vs σ0 f ac eq) {i : Nat} (h : i < ops.size) : ∃ o v, ops[i]? = some o ∧ vs[i]? = some v ∧ StepS P ops i o (f i) v (f (i + 1)) ac := by
  have hv := List.getElem?_eq_getElem (l := vs) (i := i) (by rw [R.hl]; exact h)
  exact ⟨_, _, Array.getElem?_eq_getElem h, hv, R.step i _ _ (Array.getElem?_eq_getElem h) hv⟩

theorem RunS.slots (R : RunS P ops vs σ0 f ac eq) : ∀ i, i ≤ ops.size → (f i).s = (puts σ0 (ops.toList.take i) (vs.take i)).s
  | 0, _ => by simp [puts, R.h0]
  | i + 1, h => by
    obtain ⟨o, v, ho, hv, hs⟩ := R.val (i := i) (by omega)
    have ih := R.slots i (by omega)
    have e1 : ops.toList.take (i + 1) = ops.toList.take i ++ [o] := by rw [List.take_add_one]; simp [ho]
    have e2 : vs.take (i + 1) = vs.take i ++ [v] := by rw [List.take_add_one, hv]; rfl
    have hl := R.hl
    rw [e1, e2, puts_snoc _ _ _ (by simp; omega)]
    rcases hs with ⟨_, _, e, _⟩ | ⟨t, a, x, l, off, cs, cs2, _, _, hdst, _, _, _, e, _⟩
    · rw [e]
      exact put_s_congr ih _ _
    · rw [e, hdst]
      exact ih

theorem RunS.cells (R : RunS P ops vs σ0 f ac eq) (l : Loc) (a : Nat) : ∀ b, a ≤ b → b ≤ ops.size → (∀ s l' o, a ≤ s → s < b → ops[s]? = some o → isSt o.op = true → (s, true, l') ∈ ac → l' ≠ l) → (f b).m.cells l = (f a).m.cells l := by
  intro b
  induction b with
  | zero => intro h _ _; rw [Nat.le_zero.1 h]
  | succ b ih =>
    intro h hb hn
    rcases Nat.lt_or_ge b a with hlt | hge
    · rw [show a = b + 1 by omega]
    · obtain ⟨o, v, ho, hv, hs⟩ := R.val (i := b) (by omega)
      rw [← ih hge (by omega) (fun s l' o h1 h2 h3 => hn s l' o h1 (by omega) h3)]
      rcases hs with ⟨_, _, e, _⟩ | ⟨t, a', x, l', off, cs, cs2, hop, _, _, _, hac, hcs, e, _⟩
      · rw [e, put_m]
      · have hne := hn b l' o hge (by omega) ho (by rw [hop]; rfl) hac
        rw [e]
        simp only
        rw [setCells_cells cs2 hcs, if_neg hne]

/-- The state when the operations of L have been. -/
structure JS (ops : Array Oper) (vs : List AV) (σ0 : AS) (f : Nat → AS) (L : Array Bool) (σ : AS) : Prop where
  j : JL ops vs σ0 L (swp σ0.m σ)
  m : ∃ p, p ≤ ops.size ∧ σ.m.h = (f p).m.h ∧ σ.m.o = (f p).m.o ∧ ∀ s o, ops[s]? = some o → isSt o.op = true → (L.getD s false = true ↔ s < p)

end

def kDrawS (eq : List (Nat × Nat)) (Q : Exit → AS → Prop) (ac : Ac) (τ : AS) : Prop :=
  sepA eq ac ac ∧ ∀ nx lv, τ.m.nx ≤ nx → (∀ j, τ.m.lv j → lv j) → Q .normal ⟨τ.s, ⟨τ.m.h, τ.m.o, nx, lv⟩⟩

section
variable {P : Program} {E : Env}
@[congr] theorem exOpsS_congr {ops : Array Oper} {l : List Oper} {i i' : Nat} {ac ac' : Ac} {σ σ' : AS} {K : Ac → AS → Prop} (hi : i = i') (ha : ac = ac') (h : σ = σ') : exOpsS P ops l i ac σ K = exOpsS P ops l i' ac' σ' K := by rw [hi, ha, h]
@[go_sem] theorem exOpsS_nil {ops : Array Oper} {i : Nat} {ac : Ac} {σ : AS} {K : Ac → AS → Prop} : exOpsS P ops [] i ac σ K = K ac σ := (rfl)
@[go_sem] theorem exOpsS_cons {ops : Array Oper} {o : Oper} {r : List Oper} {i : Nat} {ac : Ac} {σ : AS} {K : Ac → AS → Prop} : exOpsS P ops (o :: r) i ac σ K = (match o.op with
    | .store t a x => o.guard = none ∧ o.dst = none ∧ exStore P σ.m t (AS.ev P σ 0 a) (AS.ev P σ t x) (kSt (exOpsS P ops r (i + 1) (acOf P o i σ ++ ac)) K σ)
    | _ => swB o.op = true ∧ exGD P ops o σ (kQu (exOpsS P ops r (i + 1) (acOf P o i σ ++ ac)) K)) := by
  conv => lhs; unfold exOpsS
@[go_sem] theorem kSt_eq {f : AS → (Ac → AS → Prop) → Prop} {K : Ac → AS → Prop} {σ : AS} {m : AH} : kSt f K σ m = f ⟨σ.s, m⟩ K := (rfl)
@[go_sem] theorem kQu_eq {f : AS → (Ac → AS → Prop) → Prop} {K : Ac → AS → Prop} {σ : AS} : kQu f K σ = f σ K := (rfl)
theorem kDrawS_eq {eq : List (Nat × Nat)} {Q : Exit → AS → Prop} {ac : Ac} {τ : AS} : kDrawS eq Q ac τ = (sepA eq ac ac ∧ ∀ nx lv, τ.m.nx ≤ nx → (∀ j, τ.m.lv j → lv j) → Q .normal ⟨τ.s, ⟨τ.m.h, τ.m.o, nx, lv⟩⟩) := (rfl)
@[go_sem] theorem own_ne {t g t' g' : Nat} : (Loc.own t g ≠ Loc.own t' g') = ¬ (t = t' ∧ g = g') := by simp
@[go_sem] theorem out_ne {i j : Nat} : (Loc.out i ≠ Loc.out j) = ¬ (i = j) := by simp
end
attribute [go_sem] kDrawS_eq acOf sepA sepL isSt swB Loc.own.injEq Loc.out.injEq
attribute [irreducible] exOpsS


/-- It hands back this value, leaves these cells, and all marks live on. -/
def RQ (nx : Nat) (lv : Nat → Prop) (os : List (List AV)) (r : AV) : AH → AV → Prop := fun m x => x = r ∧ m.o = os ∧ nx ≤ m.nx ∧ ∀ j, lv j → m.lv j

theorem effV {P : Program} {k : Nat} {args : List AV} {σ : AS} {dst : Option Nat} {K : AS → Prop} {ls : List Loc} {as : List AV} {css ds os cs2 : List (List AV)} {r r2 : AV}
    (h1 : rnAL (outF ls) args = some as) (h2 : cellsL σ.m ls = some css) (h3 : rnLL (outF ls) css = some ds) (h4 : IdxOk ls) (h5 : QCall P k ⟨[], ds, σ.m.nx, σ.m.lv⟩ as (RQ σ.m.nx σ.m.lv os r))
    (h6 : rnLL (backF ls none (.own 0 (gnext σ.m 0))) os = some cs2) (h7 : cs2.length = ls.length) (h8 : rnV (backF ls none (.own 0 (gnext σ.m 0))) r = some r2)
    (hK : ∀ nx2 lv2, σ.m.nx ≤ nx2 → (∀ j, σ.m.lv j → lv2 j) → K (AS.put ⟨σ.s, ⟨(σ.m.setAll ls cs2).h, (σ.m.setAll ls cs2).o, nx2, lv2⟩⟩ dst r2)) : effX P k args σ dst K := by
  unfold effX
  refine .inl ?_
  unfold effK
  refine ⟨ls, as, css, ds, _, h1, h2, h3, h4, h5, ?_⟩
  rintro m' x ⟨rfl, ho, hn, hl⟩
  exact ⟨none, 0, [], cs2, r2, by rw [ho]; exact h6, h7, (fun k hk => by cases hk), h8, hK m'.nx m'.lv hn hl⟩

theorem effX.eff {P : Program} {k : Nat} {args : List AV} {σ : AS} {dst : Option Nat} {K : AS → Prop} (h : effK P k args σ dst K) : effX P k args σ dst K := by unfold effX; exact .inl h
theorem effX.share {P : Program} {k : Nat} {args : List AV} {σ : AS} {dst : Option Nat} {K : AS → Prop} {R : AH → AV → Prop} (h : QCall P k σ.m args R) (hK : ∀ m' r, R m' r → K (AS.put ⟨σ.s, m'⟩ dst r)) : effX P k args σ dst K := by
  unfold effX; refine .inr ?_; unfold inlK; exact ⟨R, h, hK⟩
theorem callX.share {P : Program} {k : Nat} {as args : List AV} {σ : AS} {dst : Option Nat} {K : AS → Prop} {R : AH → AV → Prop} (h : QCall P k σ.m args R) (hK : ∀ m' r, R m' r → K (AS.put ⟨σ.s, m'⟩ dst r)) : callX P k as args σ dst K := by
  unfold callX; refine .inr (.inl ?_); unfold inlK; exact ⟨R, h, hK⟩

theorem IdxOk.one (l : Loc) : IdxOk [l] := by
  intro i k h
  cases i with
  | zero => simp at h; subst h; simp [idxL]
  | succ i => simp at h

/-- A call that is handed slices that are one's own, and hands such ones back. -/
theorem callX.own {P : Program} {k : Nat} {as args args2 : List AV} {σ : AS} {dst : Option Nat} {K : AS → Prop} {R : AH → AV → Prop} (h1 : rnAL (outF []) args = some args2) (h : QCall P k ⟨[], [], σ.m.nx, σ.m.lv⟩ args2 R)
    (hK : ∀ m' r, R m' r → m'.o = [] ∧ ∃ r2, rnV (backF [] none (.own 0 (gnext σ.m 0))) r = some r2 ∧ K (AS.put ⟨σ.s, ⟨σ.m.h, σ.m.o, m'.nx, m'.lv⟩⟩ dst r2)) : callX P k as args σ dst K := by
  unfold callX
  refine .inr (.inr ?_)
  unfold effK
  refine ⟨[], args2, [], [], R, h1, rfl, rfl, fun i l hl => by simp at hl, h, fun m' r hr => ?_⟩
  obtain ⟨ho, r2, k1, k2⟩ := hK m' r hr
  exact ⟨none, 0, [], [], r2, by rw [ho]; rfl, rfl, (fun k hk => by cases hk), k1, k2⟩

end Go.AB
