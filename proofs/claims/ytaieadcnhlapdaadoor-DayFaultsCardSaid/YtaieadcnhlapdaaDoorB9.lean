/- One operation on an abstract state; that the real one does the same. -/
import Derived.Test.YtaieadcnhlapdaaDoorB8
import Derived.Attr
import Derived.Lib.LaidTab
import Derived.Lib.ItoaNum
namespace Go.AB

/-- A constant, read at a type. -/
def constA (P : Program) (ty : Nat) (v : Value) : AV := match v with
  | .agg cs => if (leafs P 12 ty).length = cs.toList.length ∧ cs.toList.all oneCell = true then .agg (zipZ P (leafs P 12 ty) cs.toList) else .raw v
  | v => leafZ P ty v

theorem constA_rep {P : Program} {G : Gh} {w : World} (ty : Nat) (v : Value) : RepA G w (constA P ty v) v := by
  unfold constA
  split
  · split
    · rename_i cs h
      exact (zipZ_rep (P := P) (G := G) (w := w) _ _ h.1 (List.all_eq_true.1 h.2)).toAgg
    · exact .raw _
  · exact leafZ_rep ty v

def AS.ev (P : Program) (σ : AS) (ty : Nat) : Operand → AV
  | .tmp t => nth σ.s t
  | .const v => constA P ty v
  | .global g => .raw (.pointer (some ⟨g, 0, none⟩))
  | .func f => .fn f []

theorem ev_rep {P : Program} {G : Gh} {w : World} {σ : AS} {a : Act} (hr : ∀ t, RepA G w (nth σ.s t) (a.tmps.getD t undef)) (ty : Nat) (x : Operand) : RepA G w (σ.ev P ty x) (a.eval x) := by
  cases x with
  | tmp t => exact hr t
  | const v => exact constA_rep ty v
  | global g => exact .raw _
  | func f => exact .fn f [] [] rfl (by simp)

/-- The type of a part. -/
def partTy (P : Program) (t i : Nat) : Nat := match P.underlying t with
  | some (.struct fs) => match fs[i]? with
    | some f => f.type
    | none => 0
  | some (.array _ e) => e
  | some (.slice e) => e
  | _ => 0

def exStore (P : Program) (m : AH) (t : Nat) (a x : AV) (K : AH → Prop) : Prop := match a with
  | .ptr l off => match m.cells l, tyA P t with
    | some cs, some (_, n) => isCell x = true ∧ (acells x).length = n ∧ off + n ≤ cs.length ∧ K (m.setCells l (spl cs off (acells x)))
    | _, _ => False
  | _ => False

/-- Which way a test goes. -/
def gate2 (b : Bool) (x y : Prop) : Prop := (b = true → x) ∧ (b = false → y)
def gate (b : Bool) (x y : Prop) : Prop := (b = true → x) ∧ (b = false → y)
def gateW (want b : Bool) (x y : Prop) : Prop := match want with
  | true => gate b x y
  | false => gate b y x
@[go_sem ↓] theorem gate2_true {x y : Prop} : gate2 true x y = x := by simp [gate2]
@[go_sem ↓] theorem gate2_false {x y : Prop} : gate2 false x y = y := by simp [gate2]
@[go_sem] theorem gate2_any {b : Bool} {x y : Prop} : gate2 b x y = ((b = true → x) ∧ (b = false → y)) := (rfl)
@[go_sem ↓] theorem gate_any {b : Bool} {x y : Prop} : gate b x y = gate2 b x y := (rfl)
@[go_sem ↓] theorem gateW_true {b : Bool} {x y : Prop} : gateW true b x y = gate b x y := (rfl)
@[go_sem ↓] theorem gateW_false {b : Bool} {x y : Prop} : gateW false b x y = gate b y x := (rfl)
@[congr] theorem gate2_congr {b b' : Bool} {x y : Prop} (h : b = b') : gate2 b x y = gate2 b' x y := by rw [h]
@[congr] theorem gate_congr {b b' : Bool} {x y : Prop} (h : b = b') : gate b x y = gate b' x y := by rw [h]
@[congr] theorem gateW_congr {want b b' : Bool} {x y : Prop} (h : b = b') : gateW want b x y = gateW want b' x y := by rw [h]
theorem gateW_iff {want b : Bool} {x y : Prop} : gateW want b x y ↔ (b = want → x) ∧ (b = !want → y) := by
  cases want with
  | true => simp [gateW, gate]
  | false => simp only [gateW, gate, Bool.not_false]; exact And.comm

def exPick (c a b : AV) (K : AV → Prop) : Prop := match c with
  | .bool t => (match a, b with
    | .bool x, .bool y => K (.bool (if t then x else y))
    | a, b => gate t (K a) (K b))
  | _ => False

def nilOk : AV → Bool
  | .ptr _ _ => true
  | .ept _ => true
  | .fn _ _ => true
  | .iface _ _ => true
  | _ => false

def concA (P : Program) (t : Nat) : Bool := match P.underlying t with
  | some (.interface _) | none => false
  | _ => true

/-- A new array: its length, and the cells of one element. -/
def madeA (zs : List AV) (n : Nat) : List AV := (List.replicate n zs).flatten

/-- What a make of a slice's type needs: the cells of an element that is zero, and its bytes. -/
def mkA (P : Program) (t : Nat) : Option (List AV × Nat) := match P.underlying t with
  | some (.slice e) => match zeroA P e, P.info? e with
    | some zs, some i => some (zs, i.bytes)
    | _, _ => none
  | _ => none

def exMake (P : Program) (m : AH) (d : Option Nat) (t : Nat) (l c : AV) (K : AH → AV → Prop) : Prop := match d, l, c with
  | some d, .int _ n, .int _ c => (match mkA P t with
    | some (zs, y) => 0 ≤ n ∧ n = c ∧ (y : Int) * n ≤ 281474976710656 ∧ n ≤ 9223372036854775807 ∧ K (m.newBox d (madeA zs n.toNat)) (.msl (.own d (gnext m d)) 0 n.toNat n.toNat)
    | none => False)
  | _, _, _ => False

def exExtract (a : AV) (i : Nat) (K : AV → Prop) : Prop := match a with
  | .tup vs => match vs[i]? with
    | some v => K v
    | none => False
  | _ => False

def unC : AV → AV
  | .sl z es _ => .sl z es .no
  | v => v

/-- A value as it is handed on to a function: nobody owns anything of it. -/
def strip1 : AV → Option AV
  | .int k n => some (.int k n)
  | .bool b => some (.bool b)
  | .str s => some (.str s)
  | .raw v => some (.raw v)
  | .sl z es _ => some (.sl z es .no)
  | .ept cs => some (.ept cs)
  | .agg cs => match toDs cs with
    | some _ => some (.agg (cs.map unC))
    | none => none
  | .iface t (.int k n) => some (.iface t (.int k n))
  | .iface t (.str s) => some (.iface t (.str s))
  | .iface t (.bool s) => some (.iface t (.bool s))
  | _ => none

def strip1L : List AV → Option (List AV)
  | [] => some []
  | a :: r => match strip1 a with
    | some b => match strip1L r with
      | some bs => some (b :: bs)
      | none => none
    | none => none

def strip : AV → Option AV
  | .fn f cs => match strip1L cs with
    | some ds => some (.fn f ds)
    | none => none
  | a => strip1 a

/-- The function that a value is. -/
def fnOf : AV → Option (Nat × List AV)
  | .fn f cs => some (f, cs)
  | .raw (.func (.func f) a b) => match a.toList, b.toList with
    | [], [] => some (f, [])
    | _, _ => none
  | _ => none

/-- The elements of a slice of one's own array, as they are. -/
def mslD (m : AH) (l : Loc) (off len : Nat) : Option DV := match m.cells l with
  | some cs => match toDs ((cs.drop off).take len) with
    | some ds => if ds.length = len then some (.sl 1 ds) else none
    | none => none
  | none => none

/-- A cell's content as a datum, functions among them. -/
def toDF (m : AH) : AV → Option DV
  | .fn f [] => some (.raw (.func (.func f) #[] #[]))
  | .msl l off len _ => mslD m l off len
  | a => toD1 a
def toDFs (m : AH) : List AV → Option (List DV)
  | [] => some []
  | v :: r => match toDF m v with
    | none => none
    | some d => match toDFs m r with
      | none => none
      | some ds => some (d :: ds)

/-- A value lent for a call that only reads: what one's own variables hold stays as it is. -/
def lend1 (m : AH) (a : AV) : Option AV := match a with
  | .ptr l off => match m.cells l with
    | some cs => match toDFs m (cs.drop off) with
      | some ds => some (.ept ds)
      | none => none
    | none => none
  | .msl l off len _ => match mslD m l off len with
    | some d => some (toAV d)
    | none => none
  | a => strip1 a
def lend1L (m : AH) : List AV → Option (List AV)
  | [] => some []
  | a :: r => match lend1 m a with
    | some b => match lend1L m r with
      | some bs => some (b :: bs)
      | none => none
    | none => none
def lend (m : AH) (a : AV) : Option AV := match a with
  | .fn f cs => match lend1L m cs with
    | some ds => some (.fn f ds)
    | none => none
  | a => lend1 m a
def lendL (m : AH) : List AV → Option (List AV)
  | [] => some []
  | a :: r => match lend m a with
    | some b => match lendL m r with
      | some bs => some (b :: bs)
      | none => none
    | none => none

def need1 : AV → Bool
  | .ptr _ _ => true
  | .msl _ _ _ _ => true
  | .mref _ => true
  | .bref _ => true
  | _ => false
def need : AV → Bool
  | .fn _ cs => cs.any need1
  | a => need1 a

/-- A value that has nothing to do with the memory. -/
def plain1 : AV → Bool
  | .int _ _ => true
  | .bool _ => true
  | .str _ => true
  | .raw _ => true
  | _ => false
def plainA : AV → Bool
  | .agg cs => cs.all plain1
  | a => plain1 a
def plain : AV → Bool
  | .tup cs => cs.all plainA
  | a => plainA a

def stripL : List AV → Option (List AV)
  | [] => some []
  | a :: r => match strip a with
    | some b => match stripL r with
      | some bs => some (b :: bs)
      | none => none
    | none => none

/-- Marks of a called function's, behind one's own. -/
def shT (n : Nat) : Tok → Tok
  | .own i => .own (n + i)
  | t => t
def shC (n : Nat) : AV → AV
  | .sl z es t => .sl z es (shT n t)
  | v => v
def shA (n : Nat) : AV → AV
  | .agg cs => .agg (cs.map (shC n))
  | v => shC n v
def shV (n : Nat) : AV → AV
  | .tup vs => .tup (vs.map (shA n))
  | v => shA n v

/-- What may be handed back: nothing that points into the function's own variables. -/
def port1 : AV → Bool
  | .int _ _ => true
  | .bool _ => true
  | .str _ => true
  | .raw _ => true
  | .sl _ _ _ => true
  | .ept _ => true
  | .iface _ (.int _ _) => true
  | .iface _ (.str _) => true
  | .iface _ (.bool _) => true
  | _ => false
def portA : AV → Bool
  | .agg cs => cs.all port1
  | v => port1 v
def port : AV → Bool
  | .tup vs => vs.all portA
  | v => portA v

def emptyH : AH := ⟨[], [], 0, fun _ => False⟩
def gh0 (st : Nat → Nat → Prop) : Gh := ⟨st, fun _ => none, fun _ => none, 0, fun _ => none⟩

def RepArgs (G : Gh) (w : World) (as : List AV) (vs : List Value) : Prop := vs.length = as.length ∧ ∀ (i : Nat) (a : AV) (v : Value), as[i]? = some a → vs[i]? = some v → RepA G w a v

/-- The tables of the library that are known lie there. -/
def Laid (P : Program) (w : World) : Prop := ∀ g, P.globalNamed "internal/strconv.uint64pow10" = some g → Lib.TabIs P w "internal/strconv.uint64pow10" .u64 Lib.pow10Tab

def TabsOk (P : Program) (E : Env) : Prop := ∀ w, Kept E w → Laid P w

theorem Laid.none {P : Program} {w : World} (h : P.globalNamed "internal/strconv.uint64pow10" = none) : Laid P w := fun g hg => by rw [h] at hg; cases hg

theorem Laid.kept {P : Program} {w : World} {g0 : Gh} (h : Laid P w) : TabsOk P ⟨w, fun _ => False, g0⟩ := fun w' k g hg => by
  have h1 := h g hg
  unfold Lib.TabIs World.var? at h1 ⊢
  simp only [hg, Option.bind_some] at h1 ⊢
  have hlt : g < w.heap.size := by
    rcases Nat.lt_or_ge g w.heap.size with h' | h'
    · exact h'
    · rw [Array.getElem?_eq_none h'] at h1; cases h1
  rw [k.block g hlt (fun x => x)]
  exact h1

/-- What a function's call comes to, that writes nothing of what was there. -/
def PCall (P : Program) (f : Nat) (as : List AV) (R : AH → AV → Prop) : Prop :=
  ∀ (st : Nat → Nat → Prop) (w : World) (vs : List Value), Laid P w → (∀ b o, st b o → b < w.heap.size) → RepArgs (gh0 st) w as vs →
    Calls P f vs.toArray w fun e w' => ∃ v r G' m', e = .returned v ∧ Inv ⟨w, fun _ => False, gh0 st⟩ G' m' w' ∧ RepA G' w' r v ∧ port r = true ∧ R m' r

attribute [irreducible] PCall

/-- It returns a value, owned by nobody. -/
def RV (r : AV) : AH → AV → Prop := fun _ x => x = r

end Go.AB
