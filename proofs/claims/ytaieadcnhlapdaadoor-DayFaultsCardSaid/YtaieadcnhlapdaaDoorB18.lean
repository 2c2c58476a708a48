/- How drawn regions are reckoned with. -/
import Derived.Test.YtaieadcnhlapdaaDoorB17
namespace Go.AB

def kDraw (Q : Exit → AS → Prop) (τ : AS) : Prop := ∀ nx lv, τ.m.nx ≤ nx → (∀ j, τ.m.lv j → lv j) → Q .normal ⟨τ.s, ⟨τ.m.h, τ.m.o, nx, lv⟩⟩

section
variable {P : Program} {E : Env}
@[congr] theorem exOpsD_congr {ops : Array Oper} {l : List Oper} {σ σ' : AS} {K : AS → Prop} (h : σ = σ') : exOpsD P ops l σ K = exOpsD P ops l σ' K := by rw [h]
@[congr] theorem exGD_congr {ops : Array Oper} {o : Oper} {σ σ' : AS} {K : AS → Prop} (h : σ = σ') : exGD P ops o σ K = exGD P ops o σ' K := by rw [h]
@[congr] theorem exOpD_congr {o : Oper} {σ σ' : AS} {K : AS → Prop} (h : σ = σ') : exOpD P o σ K = exOpD P o σ' K := by rw [h]
@[congr] theorem exCallD_congr {c : Call} {σ σ' : AS} {d : Option Nat} {K : AS → Prop} (h : σ = σ') : exCallD P c σ d K = exCallD P c σ' d K := by rw [h]
@[go_sem] theorem exOpsD_nil {ops : Array Oper} {σ : AS} {K : AS → Prop} : exOpsD P ops [] σ K = K σ := (rfl)
@[go_sem] theorem exOpsD_cons {ops : Array Oper} {o : Oper} {r : List Oper} {σ : AS} {K : AS → Prop} : exOpsD P ops (o :: r) σ K = exGD P ops o σ (kOps (exOpsD P ops r) K) := (rfl)

@[go_sem] theorem exGD_eq {ops : Array Oper} {o : Oper} {σ : AS} {K : AS → Prop} : exGD P ops o σ K = (match o.guard with
  | none => exOpD P o σ K
  | some (j, want) => match (ops[j]?).bind (·.dst) with
    | some d => (match nth σ.s d with
      | .bool b => gateW want b (exOpD P o (σ.put (some d) (.bool want)) K) (K ((σ.put (some d) (.bool !want)).put o.dst undefA))
      | .raw (.tuple _) => K (σ.put o.dst undefA)
      | _ => False)
    | none => False) := (rfl)
@[go_sem] theorem exOpD_eq {o : Oper} {σ : AS} {K : AS → Prop} : exOpD P o σ K = (match o.op with
  | .move x => K (σ.put o.dst (σ.ev P o.type x))
  | .assign x => K (σ.put o.dst (σ.ev P o.type x))
  | .pick c a b => exPick (σ.ev P 0 c) (σ.ev P o.type a) (σ.ev P o.type b) (kPut σ o.dst K)
  | .build t ps => fsOk P t = true ∧ exBuild P t (evP P σ t ps) (kPut σ o.dst K)
  | .buildSlice t len ps => exLitD P t len (evP P σ t ps) (kPut σ o.dst K)
  | .load t a => exLoad P σ.m t (σ.ev P 0 a) (kPut σ o.dst K)
  | .nilCheck x => nilOk (σ.ev P 0 x) = true ∧ K (σ.put o.dst (σ.ev P 0 x))
  | .binOp op t x y _ => exBin P op t (σ.ev P t x) (σ.ev P t y) (kPut σ o.dst K)
  | .unOp op t x => exUn op (σ.ev P t x) (kPut σ o.dst K)
  | .convert s d x => bytesA P d = false ∧ exConv P s d (σ.ev P s x) (kPut σ o.dst K)
  | .makeInterface t x => concA P t = true ∧ K (σ.put o.dst (.iface t (σ.ev P t x)))
  | .makeFunc (.func f) first caps => first.toList.length = 0 ∧ K (σ.put o.dst (.fn f (caps.toList.map (σ.ev P 0))))
  | .slice t x lo hi none => exCut P t (σ.ev P t x) (lo.map (σ.ev P 0)) (hi.map (σ.ev P 0)) (kPut σ o.dst K)
  | .fieldAddr s x f => exField P s (σ.ev P 0 x) f (kPut σ o.dst K)
  | .field s x f => exFieldV P s (σ.ev P s x) f (kPut σ o.dst K)
  | .indexAddr t x i => exIndexAddr P t (σ.ev P t x) (σ.ev P 0 i) (kPut σ o.dst K)
  | .index t x i => exIndexV P t (σ.ev P t x) (σ.ev P 0 i) (kPut σ o.dst K)
  | .extract x i => exExtract (σ.ev P 0 x) i (kPut σ o.dst K)
  | .lookup t x k ok => exLookup P σ.m t (σ.ev P t x) (σ.ev P 0 k) ok (kPut σ o.dst K)
  | .call c => exCallD P c σ o.dst K
  | _ => False) := (rfl)
@[go_sem] theorem exCallD_eq {c : Call} {σ : AS} {dst : Option Nat} {K : AS → Prop} : exCallD P c σ dst K = (match c.callee with
  | .builtin b => quietB b = true ∧ exBuiltin P b c.argTypes (evs P σ c.argTypes c.args) σ dst K
  | .value f => match fnOf (σ.ev P 0 f) with
    | some (k, caps) => bodyOk P k = true ∧ (match (evs P σ c.argTypes c.args ++ caps).any need with
      | false => ∃ as, stripL (evs P σ c.argTypes c.args ++ caps) = some as ∧ quietN P k as σ dst K
      | true => ∃ as, lendL σ.m (evs P σ c.argTypes c.args ++ caps) = some as ∧ quietK P k as σ dst K)
    | none => False
  | _ => False) := (rfl)

/-- A region that draws, its operations writing nothing: as in the order of the text. -/
theorem drawn {id : Nat} {ops : List Oper} {Q : Exit → AS → Prop} {σ0 : AS} (hm : P.follows .mixedOrders = true) (hB : drawB ops.toArray = true)
    (h : exOpsD P ops.toArray ops σ0 (kDraw Q)) : AW P E (.region id ops.toArray true) Q σ0 := AW_draw hm hB h

@[congr] theorem exLitD_congr {t len : Nat} {ps ps' : List (Nat × AV)} {K : AV → Prop} (h2 : ps = ps') : exLitD P t len ps K = exLitD P t len ps' K := by rw [h2]
@[congr] theorem quietN_congr {k : Nat} {as as' : List AV} {σ σ' : AS} {d : Option Nat} {K : AS → Prop} (h : as = as') (h2 : σ = σ') : quietN P k as σ d K = quietN P k as' σ' d K := by rw [h, h2]
theorem quiet {k : Nat} {as : List AV} {σ : AS} {dst : Option Nat} {K : AS → Prop} {r : AV} (h : PCall P k as (RV r)) (hn : plain r = true) (hK : kPut σ dst K r) : quietK P k as σ dst K := by
  unfold quietK; exact ⟨r, h, hn, hK⟩
theorem quietD {k : Nat} {as : List AV} {σ : AS} {dst : Option Nat} {K : AS → Prop} {r : AV} (h : PCall P k as (RV r)) (hn : ∀ n, shV n r = r) (hK : kPut σ dst K r) : quietN P k as σ dst K := by
  unfold quietN; exact ⟨r, h, hn, hK⟩
end

theorem kDraw_eq {Q : Exit → AS → Prop} {τ : AS} : kDraw Q τ = (∀ nx lv, τ.m.nx ≤ nx → (∀ j, τ.m.lv j → lv j) → Q .normal ⟨τ.s, ⟨τ.m.h, τ.m.o, nx, lv⟩⟩) := (rfl)
attribute [go_sem] kDraw_eq quietB exLitD keyA ckV cksV

end Go.AB
