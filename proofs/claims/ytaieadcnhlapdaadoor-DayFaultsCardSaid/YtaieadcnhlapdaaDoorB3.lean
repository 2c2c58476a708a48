/- Operations that only compute: sums, comparisons, conversions, parts of aggregates, building of them. -/
import Derived.Test.YtaieadcnhlapdaaDoorB2
import Derived.Laws.StructEq
import Derived.Laws.Concat
import Derived.Laws.Strings
import Derived.Laws.BitsLemmas
import Derived.ChangeKeysEq
namespace Go.AB

theorem i64_in {z : Int} (h1 : -9223372036854775808 ≤ z) (h2 : z ≤ 9223372036854775807) : IntKind.i64.wrap z = z := by
  rw [IntKind.wrap_i64]; omega

def tyBool (P : Program) (t : Nat) : Bool := match P.underlying t with
  | some .bool => true
  | _ => false

theorem tyBool_of {P : Program} {t : Nat} (h : tyBool P t = true) : P.underlying t = some .bool := by
  unfold tyBool at h
  split at h
  · assumption
  · cases h

/-- The fields of a struct whose parts are whole numbers, bools and strings, in their order: their kinds. -/
inductive CK where
  | int (k : IntKind)
  | bool
  | str
  deriving DecidableEq

def ckOf (P : Program) (t : Nat) : Option CK := match P.underlying t with
  | some (.int k) => some (.int k)
  | some .bool => some .bool
  | some .string => some .str
  | _ => none

def cksOf (P : Program) : Nat → List Field → Option (List CK)
  | _, [] => some []
  | n, f :: r => if f.offset = n ∧ f.name ≠ "_" then match ckOf P f.type with
      | some k => match cksOf P (n + 1) r with
        | some ks => some (k :: ks)
        | none => none
      | none => none
    else none

/-- A struct that is compared cell by cell. -/
def stA (P : Program) (t : Nat) : Option (List CK) := match P.underlying t with
  | some (.struct fs) => if P.stoodInHeld t = false ∧ P.eqGuardType P.depth t = false then cksOf P 0 fs.toList else none
  | _ => none

/-- Continuations bear names, so that nothing is reckoned in them before its time. -/
def kAnd (b : Bool) (K : Bool → Prop) (r : Bool) : Prop := K (b && r)
def kBool (K : AV → Prop) (r : Bool) : Prop := K (.bool r)
def kNBool (K : AV → Prop) (r : Bool) : Prop := K (.bool (!r))

def eqA (ks : List CK) (xs ys : List AV) (K : Bool → Prop) : Prop := match ks, xs, ys with
  | [], [], [] => K true
  | .int k :: ks, .int k1 a :: xs, .int k2 b :: ys => k1 = k ∧ k2 = k ∧ eqA ks xs ys (kAnd (decide (a = b)) K)
  | .bool :: ks, .bool a :: xs, .bool b :: ys => eqA ks xs ys (kAnd (a == b) K)
  | .str :: ks, .str a :: xs, .str b :: ys => eqA ks xs ys (kAnd (decide (a = b)) K)
  | _, _, _ => False

theorem str_beq (a b : List UInt8) : ((⟨a.toArray⟩ : ByteArray).toList == (⟨b.toArray⟩ : ByteArray).toList) = decide (a = b) := by
  rw [ByteArray.toList_mk, ByteArray.toList_mk]
  rw [Bool.eq_iff_iff]; simp

theorem part_one {P : Program} {w : World} {t : Nat} {k : CK} (hk : ckOf P t = some k) (vs : List Value) (n : Nat) (v : Value) (h : vs[n]? = some v) :
    (part t vs.toArray n).run P w = .ok v w := by
  have hag : (isAgg t).run P w = .ok false w := by
    unfold ckOf at hk
    split at hk <;> first | (cases hk; done) | (rename_i hu; simp [isAgg, run_underlying hu])
  simp [part, hag, h]

theorem cksOf_run {P : Program} {G : Gh} {w : World} (d : Nat) : ∀ (fs : List Field) (n : Nat) (ks : List CK) (xs ys : List AV) (us vs : List Value) (K : Bool → Prop),
    cksOf P n fs = some ks → eqA ks xs ys K →
    (∀ i c v, xs[i]? = some c → us[n + i]? = some v → RepA G w c v) → (∀ i c v, ys[i]? = some c → vs[n + i]? = some v → RepA G w c v) → n + xs.length = us.length → n + ys.length = vs.length →
    ∃ r, (Op.eqFields (d + 1) us.toArray vs.toArray fs).run P w = .ok r w ∧ K r
  | [], n, ks, xs, ys, us, vs, K, hk, he, hx, hy, hu, hv => by
    simp [cksOf] at hk; subst hk
    cases xs with
    | nil => cases ys with
      | nil => exact ⟨true, by simp [Op.eqFields], he⟩
      | cons y yr => exact False.elim he
    | cons x xr => exact False.elim (by simp [eqA] at he)
  | f :: r, n, ks, xs, ys, us, vs, K, hk, he, hx, hy, hu, hv => by
    unfold cksOf at hk
    split at hk
    · rename_i hf
      split at hk
      · rename_i k hck
        split at hk
        · rename_i ks' hks
          cases hk
          have main : ∀ (x y : AV) (xr yr : List AV) (b : Bool), xs = x :: xr → ys = y :: yr → (∀ u v, RepA G w x u → RepA G w y v → (Op.equalIn (d + 1) f.type u v).run P w = .ok b w) →
              (eqA ks' xr yr fun r => K (b && r)) → ∃ r', (Op.eqFields (d + 1) us.toArray vs.toArray (f :: r)).run P w = .ok r' w ∧ K r' := by
            intro x y xr yr b e1 e2 hb hrest
            subst e1 e2
            have hun : n < us.length := by simp at hu; omega
            have hvn : n < vs.length := by simp at hv; omega
            have r1 := hx 0 x us[n] rfl (List.getElem?_eq_getElem hun)
            have r2 := hy 0 y vs[n] rfl (List.getElem?_eq_getElem hvn)
            obtain ⟨q, hq, hK⟩ := cksOf_run d r (n + 1) ks' xr yr us vs (fun r => K (b && r)) hks hrest
              (fun i c v hc hv' => hx (i + 1) c v (by simpa using hc) (by rwa [show n + (i + 1) = n + 1 + i from by omega]))
              (fun i c v hc hv' => hy (i + 1) c v (by simpa using hc) (by rwa [show n + (i + 1) = n + 1 + i from by omega]))
              (by simp at hu; omega) (by simp at hv; omega)
            refine ⟨b && q, ?_, hK⟩
            have p1 := part_one (P := P) (w := w) hck us n us[n] (List.getElem?_eq_getElem hun)
            have p2 := part_one (P := P) (w := w) hck vs n vs[n] (List.getElem?_eq_getElem hvn)
            have p3 := hb _ _ r1 r2
            rw [Op.eqFields, if_pos hf.2]
            simp only [Sem.run_bind, hf.1, p1, p2, p3, Result.andThen_ok]
            cases b
            · simp
            · simpa using hq
          unfold eqA at he
          split at he
          · rename_i hke; cases hke
          · rename_i k0 ks0 k1 a xr k2 b yr hke
            cases hke
            obtain ⟨rfl, rfl, he⟩ := he
            refine main _ _ xr yr (decide (a = b)) rfl rfl (fun u v hu hv => ?_) he
            cases hu; cases hv
            unfold ckOf at hck
            split at hck <;> try (cases hck; done)
            rename_i k' hud
            rw [run_equalIn_int w d f.type _ _ a b hud]
            congr 1
          · rename_i ks0 a xr b yr hke
            cases hke
            refine main _ _ xr yr (a == b) rfl rfl (fun u v hu hv => ?_) he
            cases hu; cases hv
            unfold ckOf at hck
            split at hck <;> try (cases hck; done)
            rename_i hud
            exact run_equalIn_bool' w d f.type a b hud
          · rename_i ks0 a xr b yr hke
            cases hke
            refine main _ _ xr yr (decide (a = b)) rfl rfl (fun u v hu hv => ?_) he
            cases hu; cases hv
            unfold ckOf at hck
            split at hck <;> try (cases hck; done)
            rename_i hud
            rw [run_equalIn_string w d f.type _ _ hud, str_beq]
          · exact he.elim
        · cases hk
      · cases hk
    · cases hk

def exBinInt (op : BinOp) (k k' : IntKind) (x y : Int) (K : AV → Prop) : Prop := match op with
  | .add => k = k' ∧ K (.int k (k.wrap (x + y)))
  | .sub => k = k' ∧ K (.int k (k.wrap (x - y)))
  | .mul => k = k' ∧ K (.int k (k.wrap (x * y)))
  | .quo => k = k' ∧ y ≠ 0 ∧ K (.int k (k.wrap (x.tdiv y)))
  | .rem => k = k' ∧ y ≠ 0 ∧ K (.int k (x.tmod y))
  | .and => k = k' ∧ K (.int k (bits .and k x y))
  | .or => k = k' ∧ K (.int k (bits .or k x y))
  | .xor => k = k' ∧ K (.int k (bits .xor k x y))
  | .andNot => k = k' ∧ K (.int k (bits .andNot k x y))
  | .shl => 0 ≤ y ∧ y ≤ k.bits ∧ K (.int k (k.wrap (x * 2 ^ y.toNat)))
  | .shr => 0 ≤ y ∧ y ≤ k.bits ∧ K (.int k (x / 2 ^ y.toNat))
  | .eql => k = k' ∧ K (.bool (decide (x = y)))
  | .neq => k = k' ∧ K (.bool (!decide (x = y)))
  | .lss => k = k' ∧ K (.bool (decide (x < y)))
  | .leq => k = k' ∧ K (.bool (decide (x ≤ y)))
  | .gtr => k = k' ∧ K (.bool (decide (y < x)))
  | .geq => k = k' ∧ K (.bool (decide (y ≤ x)))

/-- An array of whole numbers, bools or strings: their kinds. -/
def arkA (P : Program) (t : Nat) : Option (List CK) := match P.underlying t with
  | some (.array n e) => match ckOf P e, P.info? e with
    | some k, some i => if P.eqGuardType P.depth t = false ∧ P.cellsOf e = 1 ∧ i.size = 1 then some (List.replicate n k) else none
    | _, _ => none
  | _ => none

def eqKs (P : Program) (t : Nat) : Option (List CK) := match stA P t with
  | some ks => some ks
  | none => arkA P t

theorem arr_run {P : Program} {G : Gh} {w : World} {e : Nat} {k : CK} (hck : ckOf P e = some k) (d : Nat) : ∀ (m j : Nat) (xs ys : List AV) (us vs : List Value) (K : Bool → Prop),
    eqA (List.replicate m k) xs ys K → (∀ i c v, xs[i]? = some c → us[j + i]? = some v → RepA G w c v) → (∀ i c v, ys[i]? = some c → vs[j + i]? = some v → RepA G w c v) → j + xs.length = us.length → j + ys.length = vs.length →
    ∃ r, (Op.eqItems (d + 1) e 1 us.toArray vs.toArray (List.range' j m)).run P w = .ok r w ∧ K r
  | 0, j, xs, ys, us, vs, K, he, hx, hy, hu, hv => by
    cases xs with
    | nil => cases ys with
      | nil => exact ⟨true, by simp [Op.eqItems], he⟩
      | cons y yr => exact False.elim he
    | cons x xr => exact False.elim (by simp [eqA] at he)
  | m + 1, j, xs, ys, us, vs, K, he, hx, hy, hu, hv => by
    have main : ∀ (x y : AV) (xr yr : List AV) (b : Bool), xs = x :: xr → ys = y :: yr → (∀ u v, RepA G w x u → RepA G w y v → (Op.equalIn (d + 1) e u v).run P w = .ok b w) →
        (eqA (List.replicate m k) xr yr fun r => K (b && r)) → ∃ r', (Op.eqItems (d + 1) e 1 us.toArray vs.toArray (List.range' j (m + 1))).run P w = .ok r' w ∧ K r' := by
      intro x y xr yr b e1 e2 hb hrest
      subst e1 e2
      have hun : j < us.length := by simp at hu; omega
      have hvn : j < vs.length := by simp at hv; omega
      have r1 := hx 0 x us[j] rfl (List.getElem?_eq_getElem hun)
      have r2 := hy 0 y vs[j] rfl (List.getElem?_eq_getElem hvn)
      obtain ⟨q, hq, hK⟩ := arr_run hck d m (j + 1) xr yr us vs (fun r => K (b && r)) hrest
        (fun i c v hc hv' => hx (i + 1) c v (by simpa using hc) (by rwa [show j + (i + 1) = j + 1 + i from by omega]))
        (fun i c v hc hv' => hy (i + 1) c v (by simpa using hc) (by rwa [show j + (i + 1) = j + 1 + i from by omega]))
        (by simp at hu; omega) (by simp at hv; omega)
      refine ⟨b && q, ?_, hK⟩
      have p1 := part_one (P := P) (w := w) hck us j us[j] (List.getElem?_eq_getElem hun)
      have p2 := part_one (P := P) (w := w) hck vs j vs[j] (List.getElem?_eq_getElem hvn)
      have p3 := hb _ _ r1 r2
      rw [List.range'_succ, Op.eqItems]
      simp only [Nat.mul_one, Sem.run_bind, p1, p2, p3, Result.andThen_ok]
      cases b
      · simp
      · simpa using hq
    rw [List.replicate_succ] at he
    unfold eqA at he
    split at he
    · rename_i hke; cases hke
    · rename_i k0 ks0 k1 a xr k2 b yr hke
      cases hke
      obtain ⟨rfl, rfl, he⟩ := he
      refine main _ _ xr yr (decide (a = b)) rfl rfl (fun u v hu hv => ?_) he
      cases hu; cases hv
      unfold ckOf at hck
      split at hck <;> try (cases hck; done)
      rename_i k' hud
      rw [run_equalIn_int w d e _ _ a b hud]
      congr 1
    · rename_i ks0 a xr b yr hke
      cases hke
      refine main _ _ xr yr (a == b) rfl rfl (fun u v hu hv => ?_) he
      cases hu; cases hv
      unfold ckOf at hck
      split at hck <;> try (cases hck; done)
      rename_i hud
      exact run_equalIn_bool' w d e a b hud
    · rename_i ks0 a xr b yr hke
      cases hke
      refine main _ _ xr yr (decide (a = b)) rfl rfl (fun u v hu hv => ?_) he
      cases hu; cases hv
      unfold ckOf at hck
      split at hck <;> try (cases hck; done)
      rename_i hud
      rw [run_equalIn_string w d e _ _ hud, str_beq]
    · exact he.elim

def exBin (P : Program) (op : BinOp) (t : Nat) (a b : AV) (K : AV → Prop) : Prop := match a, b with
  | .int k x, .int k' y => exBinInt op k k' x y K
  | .bool x, .bool y => tyBool P t = true ∧ (match op with
    | .eql => K (.bool (x == y))
    | .neq => K (.bool (!(x == y)))
    | _ => False)
  | .str x, .str y => (match op with
    | .add => x.length + y.length ≤ 9223372036854775807 ∧ K (.str (x ++ y))
    | .eql => K (.bool (decide (x = y)))
    | .neq => K (.bool (!decide (x = y)))
    | _ => False)
  | .agg xs, .agg ys => (match eqKs P t with
    | some ks => (match op with
      | .eql => eqA ks xs ys (kBool K)
      | .neq => eqA ks xs ys (kNBool K)
      | _ => False)
    | none => False)
  | _, _ => False

theorem exBinInt_ok {P : Program} {w : World} {op : BinOp} {t : Nat} {k k' : IntKind} {x y : Int} {xo yo : Operand} {K : AV → Prop} {G : Gh} (h : exBinInt op k k' x y K) :
    ∃ v u, (do eqGuard op t xo yo (.int k x) (.int k' y); binOp op t (.int k x) (.int k' y)).run P w = .ok u w ∧ RepA G w v u ∧ K v := by
  cases op <;> simp only [exBinInt] at h
  case add => obtain ⟨rfl, h⟩ := h; exact ⟨_, _, by simp only [eqGuard_at_int, binOp_add]; simp [Op.intArith], .int _ _, h⟩
  case sub => obtain ⟨rfl, h⟩ := h; exact ⟨_, _, by simp only [eqGuard_at_int, binOp_sub]; simp [Op.intArith], .int _ _, h⟩
  case mul => obtain ⟨rfl, h⟩ := h; exact ⟨_, _, by simp only [eqGuard_at_int, binOp_mul]; simp [Op.intArith], .int _ _, h⟩
  case quo => obtain ⟨rfl, hy, h⟩ := h; exact ⟨_, _, by simp only [eqGuard_at_int, binOp_quo]; simp [Op.intDiv, hy], .int _ _, h⟩
  case rem => obtain ⟨rfl, hy, h⟩ := h; exact ⟨_, _, by simp only [eqGuard_at_int, binOp_rem]; simp [Op.intDiv, hy], .int _ _, h⟩
  case and => obtain ⟨rfl, h⟩ := h; exact ⟨_, _, by simp only [eqGuard_at_int, binOp_and, intBits_and]; simp, .int _ _, h⟩
  case or => obtain ⟨rfl, h⟩ := h; exact ⟨_, _, by simp only [eqGuard_at_int, binOp_or, intBits_or]; simp, .int _ _, h⟩
  case xor => obtain ⟨rfl, h⟩ := h; exact ⟨_, _, by simp only [eqGuard_at_int, binOp_xor, intBits_xor]; simp, .int _ _, h⟩
  case andNot => obtain ⟨rfl, h⟩ := h; exact ⟨_, _, by simp only [eqGuard_at_int, binOp_andNot, intBits_andNot]; simp, .int _ _, h⟩
  case shl => obtain ⟨h0, h1, h⟩ := h; exact ⟨_, _, by simp only [eqGuard_at_int, binOp_shl, shift_shl k k' x y h0 h1]; simp, .int _ _, h⟩
  case shr => obtain ⟨h0, h1, h⟩ := h; exact ⟨_, _, by simp only [eqGuard_at_int, binOp_shr, shift_shr k k' x y h0 h1]; simp, .int _ _, h⟩
  case eql => obtain ⟨rfl, h⟩ := h; exact ⟨.bool (decide (x = y)), .bool (decide (x = y)), by simp only [eqGuard_at_int, binOp_eql]; simp; rw [Bool.eq_iff_iff]; simp, .bool _, h⟩
  case neq => obtain ⟨rfl, h⟩ := h; exact ⟨.bool (!decide (x = y)), .bool (!decide (x = y)), by simp only [eqGuard_at_int, binOp_neq]; simp; rw [Bool.eq_iff_iff]; simp, .bool _, h⟩
  case lss => obtain ⟨rfl, h⟩ := h; exact ⟨_, _, by simp only [eqGuard_at_int, binOp_lss]; simp, .bool _, h⟩
  case leq => obtain ⟨rfl, h⟩ := h; exact ⟨_, _, by simp only [eqGuard_at_int, binOp_leq]; simp, .bool _, h⟩
  case gtr => obtain ⟨rfl, h⟩ := h; exact ⟨_, _, by simp only [eqGuard_at_int, binOp_gtr]; simp, .bool _, h⟩
  case geq => obtain ⟨rfl, h⟩ := h; exact ⟨_, _, by simp only [eqGuard_at_int, binOp_geq]; simp, .bool _, h⟩

theorem exBin_ok {P : Program} {G : Gh} {w : World} {op : BinOp} {t : Nat} {a b : AV} {x y : Value} {xo yo : Operand} {K : AV → Prop} (h : exBin P op t a b K)
    (hx : RepA G w a x) (hy : RepA G w b y) :
    ∃ v u, (do eqGuard op t xo yo x y; binOp op t x y).run P w = .ok u w ∧ RepA G w v u ∧ K v := by
  unfold exBin at h
  split at h
  · cases hx; cases hy; exact exBinInt_ok h
  · cases hx; cases hy
    obtain ⟨ht, h⟩ := h
    have hb := tyBool_of ht
    split at h
    · exact ⟨_, _, by simp only [eqGuard_at_bool, Sem.run_bind, Sem.run_pure, Result.andThen_ok, run_eql_bool w t _ _ hb], .bool _, h⟩
    · exact ⟨_, _, by simp only [eqGuard_at_bool, Sem.run_bind, Sem.run_pure, Result.andThen_ok, run_neq_bool w t _ _ hb], .bool _, h⟩
    · exact h.elim
  · rename_i s1 s2
    cases hx; cases hy
    split at h
    · obtain ⟨hl, h⟩ := h
      refine ⟨_, .string ⟨(s1 ++ s2).toArray⟩, ?_, .str _, h⟩
      have := run_string_add_sum (P := P) w ⟨s1.toArray⟩ ⟨s2.toArray⟩ (by simpa [ByteArray.size] using hl)
      simp only [eqGuard_at_string, Sem.run_bind, Sem.run_pure, Result.andThen_ok]
      show (Op.stringOp .add _ _).run P w = _
      rw [this, ByteArray.mk_append_mk]
    · refine ⟨_, .bool (decide (s1 = s2)), ?_, .bool _, h⟩
      simp only [eqGuard_at_string, Sem.run_bind, Sem.run_pure, Result.andThen_ok]
      show (Op.stringOp .eql _ _).run P w = _
      simp only [Op.stringOp, str_beq]; simp
    · refine ⟨_, .bool (!decide (s1 = s2)), ?_, .bool _, h⟩
      simp only [eqGuard_at_string, Sem.run_bind, Sem.run_pure, Result.andThen_ok]
      show (Op.stringOp .neq _ _).run P w = _
      simp only [Op.stringOp, str_beq]; simp
    · exact h.elim
  · rename_i xs ys
    split at h
    · rename_i ks hst
      unfold eqKs at hst
      split at hst
      rotate_left
      · unfold arkA at hst
        split at hst
        · rename_i n e hu
          split at hst
          · rename_i k i hck hinf
            split at hst
            · rename_i hc
              cases hst
              cases hx with
              | agg _ us hl1 ho1 hr1 =>
                cases hy with
                | agg _ vs hl2 ho2 hr2 =>
                  have go : ∀ (K' : Bool → Prop), eqA (List.replicate n k) xs ys K' → ∃ r, (Op.equalIn 10000 t (.agg us.toArray) (.agg vs.toArray)).run P w = .ok r w ∧ K' r := by
                    intro K' he
                    obtain ⟨r, hr, hK⟩ := arr_run (P := P) (G := G) (w := w) hck 9998 n 0 xs ys us vs K' he (fun i c v h1 h2 => hr1 i c v h1 (by simpa using h2)) (fun i c v h1 h2 => hr2 i c v h1 (by simpa using h2)) (by omega) (by omega)
                    refine ⟨r, ?_, hK⟩
                    rw [run_equalIn_array w 9999 _ _ hu hinf, hc.2.1, List.range_eq_range']
                    exact hr
                  have hg : (eqGuard op t xo yo (.agg us.toArray) (.agg vs.toArray)).run P w = .ok () w := run_eqGuard_agg w op t xo yo _ _ hc.1
                  split at h
                  · obtain ⟨r, hr, hK⟩ := go _ h
                    refine ⟨_, .bool r, ?_, .bool _, hK⟩
                    rw [Sem.run_bind, hg, Result.andThen_ok, run_eql_struct, hr]; rfl
                  · obtain ⟨r, hr, hK⟩ := go _ h
                    refine ⟨_, .bool (!r), ?_, .bool _, hK⟩
                    rw [Sem.run_bind, hg, Result.andThen_ok, run_neq_struct, hr]; rfl
                  · exact h.elim
            · cases hst
          · cases hst
        · cases hst
      rename_i ks' hst0
      cases hst
      have hst := hst0
      clear hst0
      unfold stA at hst
      split at hst
      · rename_i fs hu
        split at hst
        · rename_i hc
          cases hx with
          | agg _ us hl1 ho1 hr1 =>
            cases hy with
            | agg _ vs hl2 ho2 hr2 =>
              have hfo : P.fieldsOf t = fs := by simp [Program.fieldsOf, hu]
              have go : ∀ (K' : Bool → Prop), eqA ks xs ys K' → ∃ r, (Op.equalIn 10000 t (.agg us.toArray) (.agg vs.toArray)).run P w = .ok r w ∧ K' r := by
                intro K' he
                obtain ⟨r, hr, hK⟩ := cksOf_run (P := P) (G := G) (w := w) 9998 fs.toList 0 ks xs ys us vs K' hst he (fun i c v h1 h2 => hr1 i c v h1 (by simpa using h2)) (fun i c v h1 h2 => hr2 i c v h1 (by simpa using h2)) (by omega) (by omega)
                refine ⟨r, ?_, hK⟩
                rw [run_equalIn_struct w 9999 t _ _ (by rw [hfo]; exact hu) hc.1, hfo]
                exact hr
              have hg : (eqGuard op t xo yo (.agg us.toArray) (.agg vs.toArray)).run P w = .ok () w := run_eqGuard_agg w op t xo yo _ _ hc.2
              split at h
              · obtain ⟨r, hr, hK⟩ := go _ h
                refine ⟨_, .bool r, ?_, .bool _, hK⟩
                rw [Sem.run_bind, hg, Result.andThen_ok, run_eql_struct, hr]; rfl
              · obtain ⟨r, hr, hK⟩ := go _ h
                refine ⟨_, .bool (!r), ?_, .bool _, hK⟩
                rw [Sem.run_bind, hg, Result.andThen_ok, run_neq_struct, hr]; rfl
              · exact h.elim
        · cases hst
      · cases hst
    · exact h.elim
  · exact h.elim

end Go.AB
