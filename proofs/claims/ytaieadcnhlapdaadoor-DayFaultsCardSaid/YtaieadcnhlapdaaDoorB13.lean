/- How abstract states are reckoned with: the rules by which the steps unfold, and what they leave alone. -/
import Derived.Test.YtaieadcnhlapdaaDoorB12
namespace Go.AB

theorem rfl_of_partTy {P : Program} {t e i : Nat} (h : (match P.underlying t with | some (.slice x) => some x | _ => none) = some e) : partTy P t i = e := by
  unfold partTy
  split at h
  · rename_i x hx; cases h; rw [hx]
  · cases h

section
variable {P : Program} {E : Env}
@[congr] theorem exC_congr {c : Code} {σ σ' : AS} {Q : Exit → AS → Prop} (h : σ = σ') : exC P E c σ Q = exC P E c σ' Q := by rw [h]
@[congr] theorem exOps_congr {ops : Array Oper} {l : List Oper} {σ σ' : AS} {K : AS → Prop} (h : σ = σ') : exOps P ops l σ K = exOps P ops l σ' K := by rw [h]
@[congr] theorem exG_congr {ops : Array Oper} {o : Oper} {σ σ' : AS} {K : AS → Prop} (h : σ = σ') : exG P ops o σ K = exG P ops o σ' K := by rw [h]
@[congr] theorem exOp_congr {o : Oper} {σ σ' : AS} {K : AS → Prop} (h : σ = σ') : exOp P o σ K = exOp P o σ' K := by rw [h]
@[congr] theorem AW_congr {c : Code} {σ σ' : AS} {Q : Exit → AS → Prop} (h : σ = σ') : AW P E c Q σ = AW P E c Q σ' := by rw [h]
@[congr] theorem thenQ_congr {f : AS → Prop} {Q : Exit → AS → Prop} {e : Exit} {σ σ' : AS} (h : σ = σ') : thenQ f Q e σ = thenQ f Q e σ' := by rw [h]
@[congr] theorem blockQ_congr {id : Nat} {Q : Exit → AS → Prop} {e : Exit} {σ σ' : AS} (h : σ = σ') : blockQ id Q e σ = blockQ id Q e σ' := by rw [h]
@[congr] theorem bodyQ_congr {rs : List ResultVar} {R : AH → AV → Prop} {e : Exit} {σ σ' : AS} (h : σ = σ') : bodyQ P rs R e σ = bodyQ P rs R e σ' := by rw [h]
@[congr] theorem resK_congr {rs : List ResultVar} {K : List AV → Prop} {σ σ' : AS} (h : σ = σ') : resK P σ rs K = resK P σ' rs K := by rw [h]
@[congr] theorem ldA_congr {ty : Option (Bool × Nat)} {cs cs' : List AV} {K : AV → Prop} (h : cs = cs') {ty' : Option (Bool × Nat)} (h2 : ty = ty') : ldA ty cs K = ldA ty' cs' K := by rw [h, h2]
@[congr] theorem exLoad_congr {m m' : AH} {t : Nat} {a a' : AV} {K : AV → Prop} (h : m = m') (h2 : a = a') : exLoad P m t a K = exLoad P m' t a' K := by rw [h, h2]
@[congr] theorem exStore_congr {m m' : AH} {t : Nat} {a a' x x' : AV} {K : AH → Prop} (h : m = m') (h2 : a = a') (h3 : x = x') : exStore P m t a x K = exStore P m' t a' x' K := by rw [h, h2, h3]
@[congr] theorem exField_congr {s f : Nat} {a a' : AV} {K : AV → Prop} (h2 : a = a') : exField P s a f K = exField P s a' f K := by rw [h2]
@[congr] theorem exIndexAddr_congr {t : Nat} {a a' i i' : AV} {K : AV → Prop} (h2 : a = a') (h3 : i = i') : exIndexAddr P t a i K = exIndexAddr P t a' i' K := by rw [h2, h3]
@[congr] theorem exBin_congr {op : BinOp} {t : Nat} {a a' i i' : AV} {K : AV → Prop} (h2 : a = a') (h3 : i = i') : exBin P op t a i K = exBin P op t a' i' K := by rw [h2, h3]
@[congr] theorem eqA_congr {ks : List CK} {a a' i i' : List AV} {K : Bool → Prop} (h2 : a = a') (h3 : i = i') : eqA ks a i K = eqA ks a' i' K := by rw [h2, h3]
@[congr] theorem exUn_congr {op : UnOp} {a a' : AV} {K : AV → Prop} (h2 : a = a') : exUn op a K = exUn op a' K := by rw [h2]
@[congr] theorem exConv_congr {s d : Nat} {a a' : AV} {K : AV → Prop} (h2 : a = a') : exConv P s d a K = exConv P s d a' K := by rw [h2]
@[congr] theorem exConvB_congr {s d : Nat} {a a' : AV} {K : AV → Prop} (h2 : a = a') : exConvB P s d a K = exConvB P s d a' K := by rw [h2]
@[congr] theorem exBytes_congr {s : Nat} {a a' : AV} {K : AV → Prop} (h2 : a = a') : exBytes P s a K = exBytes P s a' K := by rw [h2]
@[congr] theorem exFieldV_congr {s f : Nat} {a a' : AV} {K : AV → Prop} (h2 : a = a') : exFieldV P s a f K = exFieldV P s a' f K := by rw [h2]
@[congr] theorem partA_congr {off n : Nat} {g : Bool} {cs cs' : List AV} {K : AV → Prop} (h : cs = cs') {off' : Nat} (h2 : off = off') : partA off g n cs K = partA off' g n cs' K := by rw [h, h2]
@[congr] theorem exIndexV_congr {t : Nat} {a a' i i' : AV} {K : AV → Prop} (h2 : a = a') (h3 : i = i') : exIndexV P t a i K = exIndexV P t a' i' K := by rw [h2, h3]
@[congr] theorem exLen_congr {t : Nat} {a a' : AV} {K : AV → Prop} (h2 : a = a') : exLen P t a K = exLen P t a' K := by rw [h2]
@[congr] theorem exMM_congr {mx : Bool} {a a' : List AV} {K : AV → Prop} (h2 : a = a') : exMM mx a K = exMM mx a' K := by rw [h2]
@[congr] theorem mmA_congr {mx : Bool} {k : IntKind} {x : Int} {a a' : List AV} {K : AV → Prop} (h2 : a = a') : mmA mx k x a K = mmA mx k x a' K := by rw [h2]
@[congr] theorem exCut_congr {t : Nat} {a a' : AV} {lo lo' hi hi' : Option AV} {K : AV → Prop} (h2 : a = a') (h3 : lo = lo') (h4 : hi = hi') : exCut P t a lo hi K = exCut P t a' lo' hi' K := by rw [h2, h3, h4]
@[congr] theorem exAppend_congr {m m' : AH} {t t' : Nat} {s s' x x' : AV} {K : AH → AV → Prop} (h : m = m') (h2 : s = s') (h3 : x = x') : exAppend P m t t' s x K = exAppend P m' t t' s' x' K := by rw [h, h2, h3]
@[congr] theorem exLit_congr {m m' : AH} {t len : Nat} {ps ps' : List (Nat × AV)} {K : AH → AV → Prop} (h : m = m') (h2 : ps = ps') : exLit P m t len ps K = exLit P m' t len ps' K := by rw [h, h2]
@[congr] theorem exBuild_congr {t : Nat} {ps ps' : List (Nat × AV)} {K : AV → Prop} (h2 : ps = ps') : exBuild P t ps K = exBuild P t ps' K := by rw [h2]
@[congr] theorem exMake_congr {m m' : AH} {d : Option Nat} {t : Nat} {l l' c c' : AV} {K : AH → AV → Prop} (h : m = m') (h2 : l = l') (h3 : c = c') : exMake P m d t l c K = exMake P m' d t l' c' K := by rw [h, h2, h3]
@[congr] theorem exPick_congr {c c' a a' b b' : AV} {K : AV → Prop} (h : c = c') (h2 : a = a') (h3 : b = b') : exPick c a b K = exPick c' a' b' K := by rw [h, h2, h3]
@[congr] theorem exExtract_congr {a a' : AV} {i : Nat} {K : AV → Prop} (h : a = a') : exExtract a i K = exExtract a' i K := by rw [h]
@[congr] theorem exCall_congr {c : Call} {σ σ' : AS} {d : Option Nat} {K : AS → Prop} (h : σ = σ') : exCall P c σ d K = exCall P c σ' d K := by rw [h]
@[congr] theorem exBuiltin_congr {b : Builtin} {ts : Array Nat} {as as' : List AV} {σ σ' : AS} {d : Option Nat} {K : AS → Prop} (h : as = as') (h2 : σ = σ') : exBuiltin P b ts as σ d K = exBuiltin P b ts as' σ' d K := by rw [h, h2]
@[congr] theorem quietK_congr {k : Nat} {as as' : List AV} {σ σ' : AS} {d : Option Nat} {K : AS → Prop} (h : as = as') (h2 : σ = σ') : quietK P k as σ d K = quietK P k as' σ' d K := by rw [h, h2]
@[congr] theorem callK_congr {σ σ' : AS} {d : Option Nat} {R : AH → AV → Prop} {K : AS → Prop} (h : σ = σ') : callK σ d R K = callK σ' d R K := by rw [h]
end


section
variable {P : Program} {E : Env}
theorem exG_eq {ops : Array Oper} {o : Oper} {σ : AS} {K : AS → Prop} : exG P ops o σ K = (match o.guard with
  | none => exOp P o σ K
  | some (j, want) => match (ops[j]?).bind (·.dst) with
    | some d => (match nth σ.s d with
      | .bool b => gateW want b (exOp P o (σ.put (some d) (.bool want)) K) (K ((σ.put (some d) (.bool !want)).put o.dst undefA))
      | .raw (.tuple _) => K (σ.put o.dst undefA)
      | _ => False)
    | none => False) := by unfold exG; exact (rfl)
theorem exOp_eq {o : Oper} {σ : AS} {K : AS → Prop} : exOp P o σ K = (match o.op with
  | .move x => K (σ.put o.dst (σ.ev P o.type x))
  | .assign x => K (σ.put o.dst (σ.ev P o.type x))
  | .pick c a b => exPick (σ.ev P 0 c) (σ.ev P o.type a) (σ.ev P o.type b) (kPut σ o.dst K)
  | .alloc t => match o.dst, bldT P t with
    | some d, some e => K (AS.put ⟨σ.s, σ.m.newBox d [.bld t e []]⟩ (some d) (.bref (.own d (gnext σ.m d))))
    | some d, none => match zeroA P t with
      | some zs => K (AS.put ⟨σ.s, σ.m.newBox d zs⟩ (some d) (.ptr (.own d (gnext σ.m d)) 0))
      | none => False
    | none, _ => False
  | .box t x => match o.dst with
    | some d => isCell (σ.ev P t x) = true ∧ K (AS.put ⟨σ.s, σ.m.newBox d (acells (σ.ev P t x))⟩ (some d) (.ptr (.own d (gnext σ.m d)) 0))
    | none => False
  | .build t ps => fsOk P t = true ∧ exBuild P t (evP P σ t ps) (kPut σ o.dst K)
  | .buildSlice t len ps => exLit P σ.m t len (evP P σ t ps) (kMem σ o.dst K)
  | .load t a => exLoad P σ.m t (σ.ev P 0 a) (kPut σ o.dst K)
  | .store t a x => exStore P σ.m t (σ.ev P 0 a) (σ.ev P t x) (kMem1 σ o.dst K)
  | .nilCheck x => nilOk (σ.ev P 0 x) = true ∧ K (σ.put o.dst (σ.ev P 0 x))
  | .binOp op t x y _ => exBin P op t (σ.ev P t x) (σ.ev P t y) (kPut σ o.dst K)
  | .unOp op t x => exUn op (σ.ev P t x) (kPut σ o.dst K)
  | .convert s d x => exConvB P s d (σ.ev P s x) (kPut σ o.dst K)
  | .makeInterface t x => concA P t = true ∧ K (σ.put o.dst (.iface t (σ.ev P t x)))
  | .makeFunc (.func f) first caps => first.toList.length = 0 ∧ K (σ.put o.dst (.fn f (caps.toList.map (σ.ev P 0))))
  | .makeSlice t l c => exMake P σ.m o.dst t (σ.ev P 0 l) (σ.ev P 0 c) (kMem σ o.dst K)
  | .slice t x lo hi none => exCut P t (σ.ev P t x) (lo.map (σ.ev P 0)) (hi.map (σ.ev P 0)) (kPut σ o.dst K)
  | .fieldAddr s x f => exField P s (σ.ev P 0 x) f (kPut σ o.dst K)
  | .field s x f => exFieldV P s (σ.ev P s x) f (kPut σ o.dst K)
  | .indexAddr t x i => exIndexAddr P t (σ.ev P t x) (σ.ev P 0 i) (kPut σ o.dst K)
  | .index t x i => exIndexV P t (σ.ev P t x) (σ.ev P 0 i) (kPut σ o.dst K)
  | .extract x i => exExtract (σ.ev P 0 x) i (kPut σ o.dst K)
  | .makeMap _ none => match o.dst with
    | some d => K (AS.put ⟨σ.s, σ.m.newBox d [.mapc [] []]⟩ (some d) (.mref (.own d (gnext σ.m d))))
    | none => False
  | .lookup t x k ok => exLookup P σ.m t (σ.ev P t x) (σ.ev P 0 k) ok (kPut σ o.dst K)
  | .mapUpdate t x k v => exUpdate P σ.m t (σ.ev P t x) (σ.ev P 0 k) (σ.ev P 0 v) (kMem1 σ o.dst K)
  | .call c => exCall P c σ o.dst K
  | _ => False) := by unfold exOp; exact (rfl)
theorem exCall_eq {c : Call} {σ : AS} {dst : Option Nat} {K : AS → Prop} : exCall P c σ dst K = (match c.callee with
  | .builtin b => exBuiltin P b c.argTypes (evs P σ c.argTypes c.args) σ dst K
  | .value f => match fnOf (σ.ev P 0 f) with
    | some (k, caps) => bodyOk P k = true ∧ (match (evs P σ c.argTypes c.args ++ caps).any need with
      | false => ∃ as, stripL (evs P σ c.argTypes c.args ++ caps) = some as ∧ callX P k as (evs P σ c.argTypes c.args ++ caps) σ dst K
      | true => (∃ as, lendL σ.m (evs P σ c.argTypes c.args ++ caps) = some as ∧ quietK P k as σ dst K) ∨ effX P k (evs P σ c.argTypes c.args ++ caps) σ dst K)
    | none => False
  | _ => False) := by unfold exCall; exact (rfl)
@[congr] theorem effK_congr {k : Nat} {as as' : List AV} {σ σ' : AS} {d : Option Nat} {K : AS → Prop} (h : as = as') (h2 : σ = σ') : effK P k as σ d K = effK P k as' σ' d K := by rw [h, h2]
@[congr] theorem callX_congr {k : Nat} {as as' bs bs' : List AV} {σ σ' : AS} {d : Option Nat} {K : AS → Prop} (h : as = as') (h1 : bs = bs') (h2 : σ = σ') : callX P k as bs σ d K = callX P k as' bs' σ' d K := by rw [h, h1, h2]
@[congr] theorem effX_congr {k : Nat} {as as' : List AV} {σ σ' : AS} {d : Option Nat} {K : AS → Prop} (h : as = as') (h2 : σ = σ') : effX P k as σ d K = effX P k as' σ' d K := by rw [h, h2]
@[congr] theorem inlK_congr {k : Nat} {as as' : List AV} {σ σ' : AS} {d : Option Nat} {K : AS → Prop} (h : as = as') (h2 : σ = σ') : inlK P k as σ d K = inlK P k as' σ' d K := by rw [h, h2]
@[congr] theorem exLookup_congr {m m' : AH} {t : Nat} {x x' k k' : AV} {ok : Bool} {K : AV → Prop} (h : m = m') (h2 : x = x') (h3 : k = k') : exLookup P m t x k ok K = exLookup P m' t x' k' ok K := by rw [h, h2, h3]
@[congr] theorem exUpdate_congr {m m' : AH} {t : Nat} {x x' k k' v v' : AV} {K : AH → Prop} (h : m = m') (h2 : x = x') (h3 : k = k') (h4 : v = v') : exUpdate P m t x k v K = exUpdate P m' t x' k' v' K := by rw [h, h2, h3, h4]
@[congr] theorem lookC_congr {t : Nat} {cs cs' : List AV} {k k' : AV} {ok : Bool} {K : AV → Prop} (h2 : cs = cs') (h3 : k = k') : lookC P t cs k ok K = lookC P t cs' k' ok K := by rw [h2, h3]
@[congr] theorem upC_congr {t : Nat} {m m' : AH} {l l' : Loc} {cs cs' : List AV} {k k' v v' : AV} {K : AH → Prop} (h : m = m') (h1 : l = l') (h2 : cs = cs') (h3 : k = k') (h4 : v = v') : upC P t m l cs k v K = upC P t m' l' cs' k' v' K := by rw [h, h1, h2, h3, h4]
@[congr] theorem mgK_congr {ok : Bool} {z : AV} {r r' : Option AV} {K : AV → Prop} (h : r = r') : mgK ok z K r = mgK ok z K r' := by rw [h]
theorem mgK_some {ok : Bool} {z v : AV} {K : AV → Prop} : mgK ok z K (some v) = K (okV ok v true) := (rfl)
theorem mgK_none {ok : Bool} {z : AV} {K : AV → Prop} : mgK ok z K none = K (okV ok z false) := (rfl)
theorem okV_t {v : AV} {b : Bool} : okV true v b = .tup [v, .bool b] := (rfl)
theorem okV_f {v : AV} {b : Bool} : okV false v b = v := (rfl)
theorem mget_nil {k : AV} {vs : List AV} : mget [] vs k = none := (rfl)
theorem mset_nil {k v : AV} {vs : List AV} : mset [] vs k v = ([k], [v]) := (rfl)
theorem mapP_eq {p : List AV × List AV} : mapP p = .mapc p.1 p.2 := (rfl)
attribute [go_sem] mgK_some mgK_none okV_t okV_f mget_nil mset_nil mapP_eq exLookup exUpdate lookC upC
theorem kPut_eq {σ : AS} {dst : Option Nat} {K : AS → Prop} {v : AV} : kPut σ dst K v = (K (σ.put dst v)) := (rfl)
theorem kMem_eq {σ : AS} {dst : Option Nat} {K : AS → Prop} {m : AH} {v : AV} : kMem σ dst K m v = (K (AS.put ⟨σ.s, m⟩ dst v)) := (rfl)
theorem kMem1_eq {σ : AS} {dst : Option Nat} {K : AS → Prop} {m : AH} : kMem1 σ dst K m = (K (AS.put ⟨σ.s, m⟩ dst undefA)) := (rfl)
theorem kOps_eq {f : AS → (AS → Prop) → Prop} {K : AS → Prop} {σ : AS} : kOps f K σ = (f σ K) := (rfl)
theorem kCode_eq {f : AS → (Exit → AS → Prop) → Prop} {Q : Exit → AS → Prop} {σ : AS} : kCode f Q σ = (f σ Q) := (rfl)
theorem nth_zero {a : AV} {l : List AV} : nth (a :: l) 0 = a := (rfl)
theorem nth_succ {a : AV} {l : List AV} {n : Nat} : nth (a :: l) (n + 1) = nth l n := (rfl)
theorem set_zero {a v : AV} {l : List AV} : (a :: l).set 0 v = v :: l := (rfl)
theorem set_succ {a v : AV} {l : List AV} {n : Nat} : (a :: l).set (n + 1) v = a :: l.set n v := (rfl)
theorem put_some {σ : AS} {d : Nat} {v : AV} : σ.put (some d) v = ⟨σ.s.set d v, σ.m⟩ := (rfl)
theorem put_none {σ : AS} {v : AV} : σ.put none v = σ := (rfl)
theorem kAnd_eq {b r : Bool} {K : Bool → Prop} : kAnd b K r = K (b && r) := (rfl)
theorem kBool_eq {r : Bool} {K : AV → Prop} : kBool K r = K (.bool r) := (rfl)
theorem kNBool_eq {r : Bool} {K : AV → Prop} : kNBool K r = K (.bool (!r)) := (rfl)
theorem kCons_eq {v : AV} {K : List AV → Prop} {vs : List AV} : kCons v K vs = K (v :: vs) := (rfl)
theorem kRes_eq {f : (List AV → Prop) → Prop} {K : List AV → Prop} {v : AV} : kRes f K v = f (kCons v K) := (rfl)
theorem kBody_eq {R : AH → AV → Prop} {m : AH} {vs : List AV} : kBody R m vs = (port (resV vs) = true ∧ R m (resV vs)) := (rfl)
section
variable {f : AS → Prop} {Q : Exit → AS → Prop} {σ : AS} {id id' : Nat} {rs : List ResultVar} {R : AH → AV → Prop}
theorem thenQ_normal : thenQ f Q .normal σ = f σ := (rfl)
theorem thenQ_exit : thenQ f Q (.exit id) σ = Q (.exit id) σ := (rfl)
theorem thenQ_ret : thenQ f Q .ret σ = Q .ret σ := (rfl)
theorem blockQ_exit : blockQ id Q (.exit id') σ = (if id' = id then Q .normal σ else Q (.exit id') σ) := (rfl)
theorem blockQ_normal : blockQ id Q .normal σ = Q .normal σ := (rfl)
theorem blockQ_ret : blockQ id Q .ret σ = Q .ret σ := (rfl)
theorem bodyQ_normal {P : Program} : bodyQ P rs R .normal σ = resK P σ rs (kBody R σ.m) := (rfl)
theorem bodyQ_ret {P : Program} : bodyQ P rs R .ret σ = resK P σ rs (kBody R σ.m) := (rfl)
theorem bodyQW_normal {P : Program} : bodyQW P rs R .normal σ = resK P σ rs (kBodyW R σ.m) := (rfl)
theorem bodyQW_ret {P : Program} : bodyQW P rs R .ret σ = resK P σ rs (kBodyW R σ.m) := (rfl)
theorem kBodyW_eq {m : AH} {vs : List AV} : kBodyW R m vs = R m (resV vs) := (rfl)
theorem resK_nil {P : Program} {K : List AV → Prop} : resK P σ [] K = K [] := (rfl)
theorem resK_tmp {P : Program} {K : List AV → Prop} {t : Nat} {r : List ResultVar} : resK P σ (.tmp t :: r) K = resK P σ r (kCons (nth σ.s t) K) := (rfl)
theorem resK_cell {P : Program} {K : List AV → Prop} {a t : Nat} {r : List ResultVar} : resK P σ (.cell a t :: r) K = exLoad P σ.m t (nth σ.s a) (kRes (resK P σ r) K) := (rfl)
end
attribute [go_sem] bodyQW_normal bodyQW_ret kBodyW_eq kAnd_eq kBool_eq kNBool_eq kCons_eq kRes_eq kBody_eq thenQ_normal thenQ_exit thenQ_ret blockQ_exit blockQ_normal blockQ_ret bodyQ_normal bodyQ_ret resK_nil resK_tmp resK_cell
attribute [go_sem] nth_zero nth_succ set_zero set_succ put_some put_none
attribute [go_sem] exG_eq exOp_eq exCall_eq kPut_eq kMem_eq kMem1_eq kOps_eq kCode_eq
end

/-- The generation behind an entry's. -/
def genO : Option (Nat × List AV) → Nat
  | none => 0
  | some (g, _) => g + 1
theorem gnext_mk {h : List (Nat × Nat × List AV)} {o : List (List AV)} {nx : Nat} {lv : Nat → Prop} {t : Nat} : gnext ⟨h, o, nx, lv⟩ t = genO (hget h t) := by
  unfold gnext
  cases hget h t <;> rfl
theorem genO_none : genO none = 0 := (rfl)
theorem genO_some {g : Nat} {cs : List AV} : genO (some (g, cs)) = g + 1 := (rfl)
theorem hget_hset (h : List (Nat × Nat × List AV)) (t t' g : Nat) (cs : List AV) : hget (hset h t g cs) t' = if t = t' then some (g, cs) else hget h t' := by
  split
  · rename_i e; subst e; exact hget_set_self h t g cs
  · rename_i e; exact hget_set_ne h g cs e
attribute [go_sem] gnext_mk genO_none genO_some hget_hset
theorem okT_no {m : AH} : okT m .no = False := (rfl)
theorem okT_nil {m : AH} : okT m .nil = True := (rfl)
theorem okT_own {m : AH} {i : Nat} : okT m (.own i) = m.lv i := (rfl)
attribute [go_sem] okT_no okT_nil okT_own
theorem okT_mono {h h' : List (Nat × Nat × List AV)} {o o' : List (List AV)} {nx nx' : Nat} {lv lv' : Nat → Prop} {t : Tok} (k : okT ⟨h, o, nx, lv⟩ t) (hl : ∀ j, lv j → lv' j) : okT ⟨h', o', nx', lv'⟩ t := by
  cases t with
  | no => exact k
  | nil => exact k
  | own i => exact hl i k
section
variable {P : Program} {σ : AS} {t : Nat}
theorem ev_tmp {i : Nat} : AS.ev P σ t (.tmp i) = nth σ.s i := (rfl)
theorem ev_const {v : Value} : AS.ev P σ t (.const v) = constA P t v := (rfl)
theorem ev_global {g : Nat} : AS.ev P σ t (.global g) = .raw (.pointer (some { block := g, off := 0 })) := (rfl)
theorem ev_func {f : Nat} : AS.ev P σ t (.func f) = .fn f [] := (rfl)
end
/-- An element is reached: the rest is not looked at until the element is known. -/
def atK (o : Option DV) (K : AV → Prop) : Prop := ∃ e, o = some e ∧ K (.ept (dcells e))
@[congr] theorem atK_congr {o o' : Option DV} {K : AV → Prop} (h : o = o') : atK o K = atK o' K := by rw [h]
theorem atK_some {e : DV} {K : AV → Prop} : atK (some e) K = K (.ept (dcells e)) := by
  apply propext
  exact ⟨fun ⟨_, h, hk⟩ => by cases h; exact hk, fun hk => ⟨e, rfl, hk⟩⟩
def atC (o : Option UInt8) (K : AV → Prop) : Prop := ∃ c, o = some c ∧ K (.int .u8 (c.toNat : Int))
@[congr] theorem atC_congr {o o' : Option UInt8} {K : AV → Prop} (h : o = o') : atC o K = atC o' K := by rw [h]
theorem atC_some {c : UInt8} {K : AV → Prop} : atC (some c) K = K (.int .u8 (c.toNat : Int)) := by
  apply propext
  exact ⟨fun ⟨_, h, hk⟩ => by cases h; exact hk, fun hk => ⟨c, rfl, hk⟩⟩
section
variable {P : Program} {t : Nat} {K : AV → Prop}
theorem exIndexAddr_sl {z : Nat} {es : List DV} {tok : Tok} {k : IntKind} {n : Int} : exIndexAddr P t (.sl z es tok) (.int k n) K = (slA P t = some z ∧ 0 ≤ n ∧ atK es[n.toNat]? K) := (rfl)
theorem exIndexAddr_ptr {l : Loc} {o : Nat} {k : IntKind} {n : Int} : exIndexAddr P t (.ptr l o) (.int k n) K = (match arA P t with
    | some (len, z) => 0 ≤ n ∧ n < (len : Int) ∧ K (.ptr l (o + n.toNat * z))
    | none => False) := (rfl)
theorem exIndexAddr_msl {l : Loc} {o len cap : Nat} {k : IntKind} {n : Int} : exIndexAddr P t (.msl l o len cap) (.int k n) K = (match slA P t with
    | some z => 0 ≤ n ∧ n < (len : Int) ∧ K (.ptr l (o + n.toNat * z))
    | none => False) := (rfl)
theorem exIndexV_agg {cs : List AV} {k : IntKind} {n : Int} : exIndexV P t (.agg cs) (.int k n) K = (match avA P t with
    | some (len, g, z) => 0 ≤ n ∧ n < (len : Int) ∧ partA (n.toNat * z) g z cs K
    | none => False) := (rfl)
theorem exIndexV_str {s : List UInt8} {k : IntKind} {n : Int} : exIndexV P t (.str s) (.int k n) K = (strA P t = true ∧ 0 ≤ n ∧ atC s[n.toNat]? K) := (rfl)
end
attribute [go_sem] atK_some atC_some exIndexAddr_sl exIndexAddr_ptr exIndexAddr_msl exIndexV_agg exIndexV_str
attribute [go_sem] ev_tmp ev_const ev_global ev_func
attribute [go_sem] exLoad ldA exStore exField exBin exBinInt eqA exUn exConv exConvB exBytes exFieldV partA exLen exMM mmA exCut exAppend exAppX_sl exAppX_msl exAppM exLit exBuild exMake exPick exExtract exBuiltin
  resV constA leafZ evs evP AH.cells AH.setCells AH.newBox AH.app hget hset spl acells dcells toAV toAVs toD1 toDs toDV toDVs isCell fillA bndA nilOk strip strip1 strip1L stripL fnOf toDF toDFs mslD srcA lend1 lend1L lend lendL need need1 plain plainA plain1 List.any_cons List.any_nil Bool.or_false Bool.or_true Bool.false_or Bool.true_or List.toList_toArray Array.toList_empty List.toList_toArray unC shT shC shA shV port1 portA port emptyH undefA undef oneCell madeA

attribute [go_sem] List.set_nil List.getElem?_toArray List.getElem?_cons_zero List.getElem?_cons_succ Option.bind_some Option.map_some Option.map_none Option.some.injEq
  List.length_cons List.length_nil List.replicate_succ List.replicate_zero List.cons_append List.nil_append List.append_nil Nat.reduceAdd Nat.reduceSub Nat.reduceEqDiff Nat.reduceMul Nat.reduceBEq Nat.reduceLeDiff Nat.reduceBNe Nat.reduceDiv Nat.reduceMod List.drop_succ_cons List.drop_zero List.take_succ_cons List.take_zero
  exists_eq_left exists_eq_left' true_and and_true false_and and_false false_implies implies_true forall_const Bool.not_true Bool.not_false decide_eq_true_eq decide_eq_false_iff_not Bool.true_eq_false Bool.false_eq_true
  if_true if_false ite_true ite_false reduceIte reduceCtorEq ne_eq not_false_eq_true not_true_eq_false List.map_cons List.map_nil List.zipIdx_cons List.zipIdx_nil List.all_cons List.all_nil Bool.and_true Bool.and_false Bool.true_and Bool.false_and
  List.range_succ List.range_zero beq_self_eq_true Bool.and_self Bool.and_eq_true Nat.le_refl Int.toNat_natCast Array.getD_eq_getD_getElem? Option.getD_some Option.getD_none List.flatten_cons List.flatten_nil List.getElem?_map AV.int.injEq AV.bool.injEq AV.str.injEq AV.agg.injEq AV.tup.injEq AV.sl.injEq AV.raw.injEq List.cons.injEq Tok.own.injEq

end Go.AB
