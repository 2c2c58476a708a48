/- DayFaults: the row of the law over what its laid variables hold, and its tied card; for all nets, numbers and faults. -/
import Derived.Test.YtaieadcnhlapdaaDoorRows
import Derived.Test.YtaieadcnhlapdaaDoorCards
import Derived.Test.YtaieadcnhlapdaaDoorTie
import Derived.Test.YtaieadcnhlapdaaDoorF6
import Derived.WalkKit
import Derived.ProofKit
import Derived.OpenShut
import Derived.ShutString
import Derived.ChangeOld
import Derived.Below
import Derived.SizedLaws
import Derived.SevenTiedAt
import Derived.Deep.DeepHandedRow
import Derived.Deep.DeepWitnessRowRef
import Derived.Lib.LaidU8
namespace Go.Proofs.YtaieadcnhlapdaaDoor.dayFaults
open Go.ChangeShapes Go.WideShapes Go.ChangeAt Go.RowKit Go.AB
set_option linter.unusedVariables false
theorem own : ownKnob Tryd.prog.godebug = none := by kernel_rfl
theorem laidOut : laidOutB Tryd.prog = true := by kernel_rfl
theorem gT : Tryd.prog.globalNamed "internal/strconv.uint64pow10" = some 0 := by kernel_rfl
theorem gTType : (Tryd.prog.globals[0]?).map (·.type) = some 105 := by kernel_rfl
theorem cells99 : Tryd.prog.cellsOf 99 = 1 := by kernel_rfl
theorem cells105 : Tryd.prog.cellsOf 105 = 20 := by kernel_rfl
theorem pow10 : (Rows.laid_internal_strconv_uint64pow10 : DataW Unit) = Lib.tabData .u64 Lib.pow10Tab := by kernel_rfl

/-- The numbers that a datum holds. -/
def numsOf : DataW Unit → Array Value
  | .agg l => (l.filterMap fun | .lit (.int k z) => some (Value.int k z) | _ => none).toArray
  | _ => #[]
/-- The witness: the settled world, the three variables holding what their initialisers lay. -/
noncomputable def laidWorld (os : Os) : World :=
  let w0 := World.holding Tryd.prog os ⟨#[], #[], []⟩
  let put (h : Array Obj) (g : Nat) (cs : Array Value) : Array Obj := h.modify g fun
    | .cells _ t frozen => .cells cs t frozen
    | o => o
  let h1 := put w0.heap 0 (numsOf Rows.laid_internal_strconv_uint64pow10)
  let h2 := put h1 1 (numsOf Rows.laid_math_bits_deBruijn32tab)
  let h3 := put h2 2 (numsOf Rows.laid_math_bits_deBruijn64tab)
  { w0 with heap := h3 }
theorem laid_met (os : Os) (args : Array Value) : laidMet Tryd.prog Rows.dayFaultsRow.laid ((laidWorld os).forCall (fun _ _ => 0) ⟨#[], args, []⟩).memory :=
  laidMet_of_run' 8 (by kernel_rfl) (by kernel_rfl)
def arg0 : Array Value := #[.agg #[.slice none 0 0, .slice none 0 0, .slice none 0 0, .slice none 0 0, .slice none 0 0], .int .i64 0, .slice none 0 0]
theorem witness_row (os : Os) {H : Type} (enc : TypeId × Value → H) :
    (OpenSpec.ofChange Rows.dayFaultsSpec).preRow enc Tryd.prog Tryd.f3 Rows.dayFaultsRow.domain false Rows.dayFaultsRow.laid ((laidWorld os).forCall (fun _ _ => 0) ⟨#[], arg0, []⟩).memory arg0 := by
  have hw : (DataW.whole enc Tryd.prog ((laidWorld os).forCall (fun _ _ => 0) ⟨#[], arg0, []⟩).memory Tryd.f3.params.toList (OpenSpec.ofChange Rows.dayFaultsSpec).vars false arg0.toList 8).map (fun x => (x.1, x.2.1)) =
      some ([.agg [.nil, .nil, .nil, .nil, .nil], .lit (.int .i64 0), .nil], []) := by kernel_rfl
  obtain ⟨⟨x1, x2, x3⟩, hx, hx1⟩ := Option.map_eq_some_iff.1 hw
  simp only [Prod.mk.injEq] at hx1
  obtain ⟨rfl, rfl⟩ := hx1
  exact OpenSpec.preRow_of_cond 8 hx (by kernel_rfl) (fun k hk => by cases hk) (by kernel_rfl) (laid_met os _)

set_option maxRecDepth 100000 in
theorem lifted (os : Os) (started : os.Started) (H : Type) (enc : TypeId × Value → H) (F : Stop.Interp) :
    ReturnsInHanded {} Tryd.checked os 3 .any ((OpenSpec.ofChange Rows.dayFaultsSpec).preRow enc Tryd.prog Tryd.f3 Rows.dayFaultsRow.domain false Rows.dayFaultsRow.laid) (((OpenSpec.ofChange Rows.dayFaultsSpec).at F).post enc Tryd.prog Tryd.f3 false true false false) := by
  refine returnsInHanded_of_row (C := Tryd.checked) (s := OpenSpec.ofChange Rows.dayFaultsSpec) own started (by kernel_rfl) Tryd.func3
    (witness_row_atRef (enc := enc) (C := Tryd.checked) false (laidWorld os) arg0 rfl (by kernel_rfl) (by kernel_rfl) (by kernel_rfl) (witness_row os enc)) ?_
  intro W base args ds gs before hval0 hW _ hcond0 hsz0 hL hsh _
  have hlaid : Laid Tryd.prog W := by
    intro g hg
    have hr := Lib.laidMet.reads (P := Tryd.prog) (w := W) (l := [("math/bits.deBruijn32tab", Rows.laid_math_bits_deBruijn32tab), ("math/bits.deBruijn64tab", Rows.laid_math_bits_deBruijn64tab), ("internal/strconv.uint64pow10", Rows.laid_internal_strconv_uint64pow10)]) hL
      (n := "internal/strconv.uint64pow10") (d := Rows.laid_internal_strconv_uint64pow10) (.tail _ (.tail _ (.head _)))
    obtain ⟨g', t, cs, fuel, p, h1, h2, h3, h4⟩ := hr
    obtain rfl := Option.some.inj (gT.symm.trans h1)
    obtain rfl := Option.some.inj (gTType.symm.trans h2)
    rw [pow10] at h4
    unfold Lib.TabIs
    rw [h3, ← Lib.cells_of_tab Tryd.underlying105 Tryd.underlying99 cells99 cells105 h4]
  have hsz : (DataW.weightsEach Tryd.prog (Tryd.f3.params.toList ++ (OpenSpec.ofChange Rows.dayFaultsSpec).bare.plain.varTypes Tryd.prog) (ds ++ gs)).all (· ≤ reachBytes) = true := hsz0
  have hval : ∀ (j : Nat) t v, Tryd.f3.params[j]? = some t → args[j]? = some v → Value.okWide Tryd.prog W .any base t v := hval0
  have hW' := hW
  obtain ⟨p, q, hA0, hV, rfl, hfz, hnd⟩ := hW
  have hA : DataW.TrodAll enc Tryd.prog W 0 (fun _ => true) true Tryd.f3.params.toList args.toList ds p := hA0
  obtain ⟨rfl, rfl⟩ := trodVars_none hV
  have hk : ∀ k ∈ DataW.weightsEach Tryd.prog Tryd.f3.params.toList ds, k ≤ reachBytes := fun k hk => by
    simpa using List.all_eq_true.1 hsz k (weights_app _ _ (trodAll_len _ _ _ _ hA) k hk)
  rw [Tryd.params3] at hA hval hk
  obtain ⟨xs, e0, e1, e2⟩ := open_args (m := 12) _ _ _ _ (by kernel_rfl) (fun j t v ht hv => hval j t v (by simpa using ht) (by simpa using hv)) hA hk
  clear hA0 hval0 hsz0 hsz hk
  have hc := PCall.run (law3 xs e1) hlaid e2
  rw [Array.toArray_toList] at hc
  refine hc.mono ?_
  rintro e W' ⟨rfl, bel⟩
  have hA2 := hA
  obtain ⟨v0, vs0, d0, ds0, p0, q0, hargs0, rfl, rfl, h0, r0⟩ := trodAll_cons hA2
  obtain ⟨v1, vs1, d1, ds1, p1, q1, hargs1, rfl, rfl, h1, r1⟩ := trodAll_cons r0
  obtain ⟨v2, vs2, d2, ds2, p2, q2, hargs2, rfl, rfl, h2, r2⟩ := trodAll_cons r1
  obtain ⟨_, rfl, rfl⟩ := trodAll_nil r2
  exact ⟨_, rfl, _, _, _, [], _, [], hW', trodAll_mk1 (shut_bool Tryd.underlying4 _), args_stay laidOut bel _ _ _ _ (by kernel_rfl) hA, rfl, bel.frame _, fun h => by cases h⟩

theorem over : Rows.DayFaultsSaid :=
  OpenClaim.holds_of_cond 3 Tryd.f3 rfl rfl rfl rfl rfl rfl rfl ⟨rfl, rfl, rfl, rfl, rfl⟩ rfl rfl rfl rfl rfl (by kernel_rfl) Tryd.func3 (by kernel_rfl)
    (of_decide_eq_true (by kernel_rfl)) (by unfold Func.isWrapper; first | (rw [if_pos (by decide +kernel)]; kernel_rfl) | (rw [if_neg (by decide +kernel)]; exact ⟨rfl, rfl⟩))
    (fun os started H enc _ F0 => by rw [OpenClaim.pre_eq_preRow]; exact lifted os started H enc F0)

theorem card : Rows.DayFaultsCardSaid :=
  Claim7.holds_tied_plain_at .later [] [.data, .data, .data] true (true, "94c65cf67a2b96eecf2c2e29a0e9f27a12256b0a1e7df758cbbecbfef114397a") false
    over (fun _ h => by cases h) (by kernel_rfl) (fun _ h => by cases h) dayFaults_row_tie rfl ⟨rfl, rfl⟩ (by kernel_rfl) rfl
    (fun f fn hf hfn => by
      obtain rfl : f = 3 := Option.some.inj ((show Tryd.prog.funcNamed "fishplate/fishlaw1.DayFaults" = some 3 by kernel_rfl).symm.trans hf) |>.symm
      obtain rfl : fn = Tryd.f3 := (Option.some.inj (Tryd.func3.symm.trans hfn)).symm
      exact ⟨by kernel_rfl, fun j t ht => by
        rw [Tryd.params3] at ht
        have h3 : t = 28 ∨ t = 3 ∨ t = 29 := by
          rcases j with _ | _ | _ | j
          · exact .inl (by simpa using ht.symm)
          · exact .inr (.inl (by simpa using ht.symm))
          · exact .inr (.inr (by simpa using ht.symm))
          · simp at ht
        rcases h3 with rfl | rfl | rfl
        · exact (show Tryd.prog.wantsStandIn 28 = false by kernel_rfl)
        · exact (show Tryd.prog.wantsStandIn 3 = false by kernel_rfl)
        · exact (show Tryd.prog.wantsStandIn 29 = false by kernel_rfl)⟩)
    (by kernel_rfl)
end Go.Proofs.YtaieadcnhlapdaaDoor.dayFaults
namespace Go.Proofs.YtaieadcnhlapdaaDoor
/-- The card, under a short name, for the claim. -/
theorem dayFaults_holds : Rows.DayFaultsCardSaid := dayFaults.card
end Go.Proofs.YtaieadcnhlapdaaDoor
