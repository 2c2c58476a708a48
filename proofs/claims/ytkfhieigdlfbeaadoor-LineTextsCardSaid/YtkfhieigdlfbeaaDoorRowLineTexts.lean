/- LineTexts: the row of the law over what its laid variables hold, and its tied card; for all nets. -/
import Derived.Test.YtkfhieigdlfbeaaDoorRows
import Derived.Test.YtkfhieigdlfbeaaDoorCards
import Derived.Test.YtkfhieigdlfbeaaDoorTie
import Derived.Test.YtkfhieigdlfbeaaDoorH4
import Derived.WalkKit
import Derived.ProofKit
import Derived.OpenShut
import Derived.ShutString
import Derived.ChangeOld
import Derived.Below
import Derived.SizedLaws
import Derived.SevenTiedAt
import Derived.Lay
import Derived.Deep.DeepHandedRow
import Derived.Deep.DeepWitnessRowRef
import Derived.Lib.LaidU8
namespace Go.Proofs.YtkfhieigdlfbeaaDoor.lineTexts
set_option linter.unusedSimpArgs false
set_option linter.unusedVariables false
open Go.ChangeShapes Go.WideShapes Go.ChangeAt Go.RowKit Go.AB
theorem own : ownKnob Tryd.prog.godebug = none := by kernel_rfl
theorem laidOut : laidOutB Tryd.prog = true := by kernel_rfl
theorem gT : Tryd.prog.globalNamed "internal/strconv.uint64pow10" = some 1 := by kernel_rfl
theorem gTType : (Tryd.prog.globals[1]?).map (·.type) = some 193 := by kernel_rfl
theorem cells51 : Tryd.prog.cellsOf 179 = 1 := by kernel_rfl
theorem cells193 : Tryd.prog.cellsOf 193 = 20 := by kernel_rfl
theorem pow10 : (Rows.laid_internal_strconv_uint64pow10 : DataW Unit) = Lib.tabData .u64 Lib.pow10Tab := by kernel_rfl

/-- The witness: a world laid out as the list says. -/
noncomputable def laidWorld (os : Os) : World := World.laidAll Tryd.prog os Rows.lineTextsRow.laid
theorem laid_met (os : Os) (args : Array Value) : laidMet Tryd.prog Rows.lineTextsRow.laid ((laidWorld os).forCall (fun _ _ => 0) ⟨#[], args, []⟩).memory :=
  laidMet_laidAll args (by kernel_rfl) (by kernel_rfl)
def arg0 : Array Value := #[.agg #[.slice none 0 0, .slice none 0 0, .slice none 0 0, .slice none 0 0, .slice none 0 0]]
theorem witness_row (os : Os) {H : Type} (enc : TypeId × Value → H) :
    (OpenSpec.ofChange Rows.lineTextsSpec).preRow enc Tryd.prog Tryd.f7 Rows.lineTextsRow.domain false Rows.lineTextsRow.laid ((laidWorld os).forCall (fun _ _ => 0) ⟨#[], arg0, []⟩).memory arg0 := by
  have hw : (DataW.whole enc Tryd.prog ((laidWorld os).forCall (fun _ _ => 0) ⟨#[], arg0, []⟩).memory Tryd.f7.params.toList (OpenSpec.ofChange Rows.lineTextsSpec).vars false arg0.toList 8).map (fun x => (x.1, x.2.1)) =
      some ([.agg [.nil, .nil, .nil, .nil, .nil]], []) := by kernel_rfl
  obtain ⟨⟨x1, x2, x3⟩, hx, hx1⟩ := Option.map_eq_some_iff.1 hw
  simp only [Prod.mk.injEq] at hx1
  obtain ⟨rfl, rfl⟩ := hx1
  exact OpenSpec.preRow_of_cond 8 hx (by kernel_rfl) (fun k hk => by cases hk) (by kernel_rfl) (laid_met os _)

set_option maxRecDepth 100000 in
theorem lifted (os : Os) (started : os.Started) (H : Type) (enc : TypeId × Value → H) (F : Stop.Interp) :
    ReturnsInHanded {} Tryd.checked os 7 .any ((OpenSpec.ofChange Rows.lineTextsSpec).preRow enc Tryd.prog Tryd.f7 Rows.lineTextsRow.domain false Rows.lineTextsRow.laid) (((OpenSpec.ofChange Rows.lineTextsSpec).at F).post enc Tryd.prog Tryd.f7 false true false false) := by
  refine returnsInHanded_of_row (C := Tryd.checked) (s := (OpenSpec.ofChange Rows.lineTextsSpec)) own started (by kernel_rfl) Tryd.func7
    (witness_row_atRef (enc := enc) (C := Tryd.checked) false (laidWorld os) arg0 (World.laidAll_os _ _ _) (by kernel_rfl) (by kernel_rfl) (by kernel_rfl) (witness_row os enc)) ?_
  intro W base args ds gs before hval0 hW _ hcond0 hsz0 hL hsh _
  have hlaid : Laid Tryd.prog W := by
    refine ⟨fun g hg => ?_, fun _ => hsh, LaidV.none (by kernel_rfl) (by kernel_rfl)⟩
    have hr := Lib.laidMet.reads (P := Tryd.prog) (w := W) (l := Rows.lineTextsRow.laid) hL
      (n := "internal/strconv.uint64pow10") (d := Rows.laid_internal_strconv_uint64pow10) (.tail _ (.tail _ (.head _)))
    obtain ⟨g', t, cs, fuel, p, h1, h2, h3, h4⟩ := hr
    obtain rfl := Option.some.inj (gT.symm.trans h1)
    obtain rfl := Option.some.inj (gTType.symm.trans h2)
    rw [pow10] at h4
    unfold Lib.TabIs
    rw [h3, ← Lib.cells_of_tab Tryd.underlying193 Tryd.underlying179 cells51 cells193 h4]
  have hsz : (DataW.weightsEach Tryd.prog (Tryd.f7.params.toList ++ (OpenSpec.ofChange Rows.lineTextsSpec).bare.plain.varTypes Tryd.prog) (ds ++ gs)).all (· ≤ reachBytes) = true := hsz0
  have hval : ∀ (j : Nat) t v, Tryd.f7.params[j]? = some t → args[j]? = some v → Value.okWide Tryd.prog W .any base t v := hval0
  have hW' := hW
  obtain ⟨p, q, hA0, hV, rfl, hfz, hnd⟩ := hW
  have hA : DataW.TrodAll enc Tryd.prog W 0 (fun _ => true) true Tryd.f7.params.toList args.toList ds p := hA0
  obtain ⟨rfl, rfl⟩ := trodVars_none hV
  have hk : ∀ k ∈ DataW.weightsEach Tryd.prog Tryd.f7.params.toList ds, k ≤ reachBytes := fun k hk => by
    simpa using List.all_eq_true.1 hsz k (weights_app _ _ (trodAll_len _ _ _ _ hA) k hk)
  rw [Tryd.params7] at hA hval hk
  obtain ⟨xs, e0, e1, e2⟩ := open_args (m := 12) _ _ _ _ (by kernel_rfl) (fun j t v ht hv => hval j t v (by simpa using ht) (by simpa using hv)) hA hk
  clear hA0 hval0 hsz0 hsz hk
  have hc := PCall.run (law7 xs e1) hlaid e2
  rw [Array.toArray_toList] at hc
  refine hc.mono ?_
  rintro e W' ⟨rfl, bel⟩
  have hA2 := hA
  obtain ⟨v0, vs0, d0, ds0, p0, q0, hargs0, rfl, rfl, h0, r0⟩ := trodAll_cons hA2
  obtain ⟨_, rfl, rfl⟩ := trodAll_nil r0
  exact ⟨_, rfl, _, _, _, [], _, [], hW', trodAll_mk1 (shut_bool Tryd.underlying4 _), args_stay laidOut bel _ _ _ _ (by kernel_rfl) hA, rfl, bel.frame _, fun h => by cases h⟩

theorem over : Rows.LineTextsSaid :=
  OpenClaim.holds_of_cond 7 Tryd.f7 rfl rfl rfl rfl rfl rfl rfl ⟨rfl, rfl, rfl, rfl, rfl⟩ rfl rfl rfl rfl rfl (by kernel_rfl) Tryd.func7 (by kernel_rfl)
    (of_decide_eq_true (by kernel_rfl)) (by unfold Func.isWrapper; first | (rw [if_pos (by decide +kernel)]; kernel_rfl) | (rw [if_neg (by decide +kernel)]; exact ⟨rfl, rfl⟩))
    (fun os started H enc _ F0 => by rw [OpenClaim.pre_eq_preRow]; exact lifted os started H enc F0)

theorem card : Rows.LineTextsCardSaid :=
  Claim7.holds_tied_plain_at .later [] _ _ _ _
    over (fun _ h => by cases h) (by kernel_rfl) (fun _ h => by cases h) lineTexts_row_tie rfl ⟨rfl, rfl⟩ (by kernel_rfl) rfl
    (fun f fn hf hfn => by
      obtain rfl : f = 7 := Option.some.inj ((show Tryd.prog.funcNamed "fishplate/fishlaw1.LineTexts" = some 7 by kernel_rfl).symm.trans hf) |>.symm
      obtain rfl : fn = Tryd.f7 := (Option.some.inj (Tryd.func7.symm.trans hfn)).symm
      exact ⟨by kernel_rfl, fun j t ht => by
        rw [Tryd.params7] at ht
        have h3 : t = 54 := by
          rcases j with _ | j
          · simpa using ht.symm
          · simp at ht
        subst h3
        exact (show Tryd.prog.wantsStandIn 54 = false by kernel_rfl)⟩)
    (by kernel_rfl)
end Go.Proofs.YtkfhieigdlfbeaaDoor.lineTexts
namespace Go.Proofs.YtkfhieigdlfbeaaDoor
set_option linter.unusedSimpArgs false
set_option linter.unusedVariables false
/-- The card, under a short name, for the claim. -/
theorem lineTexts_holds : Rows.LineTextsCardSaid := lineTexts.card
end Go.Proofs.YtkfhieigdlfbeaaDoor
