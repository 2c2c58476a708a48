/- DayReadLogs: the row of the law over what its laid variables hold, and its tied card; for all strings. -/
import Derived.Test.YtkfhieigdlfbeaaDoorRows
import Derived.Test.YtkfhieigdlfbeaaDoorCards
import Derived.Test.YtkfhieigdlfbeaaDoorTie
import Derived.Test.YtkfhieigdlfbeaaDoorX7
import Derived.WalkKit
import Derived.ProofKit
import Derived.OpenShut
import Derived.ShutString
import Derived.ChangeOld
import Derived.Below
import Derived.SizedLaws
import Derived.SevenTiedAt
import Derived.Lay
import Derived.Deep.DeepHandedRow
import Derived.Deep.DeepWitnessRowRef
import Derived.Lib.LaidU8
import Derived.Stop.LaidErr
namespace Go.Proofs.YtkfhieigdlfbeaaDoor.dayReadLogs
set_option linter.unusedSimpArgs false
set_option linter.unusedVariables false
open Go.ChangeShapes Go.WideShapes Go.ChangeAt Go.RowKit Go.AB
theorem own : ownKnob Tryd.prog.godebug = none := by kernel_rfl
theorem laidOut : laidOutB Tryd.prog = true := by kernel_rfl
theorem gT : Tryd.prog.globalNamed "internal/strconv.uint64pow10" = some 1 := by kernel_rfl
theorem gTType : (Tryd.prog.globals[1]?).map (·.type) = some 193 := by kernel_rfl
theorem cells51 : Tryd.prog.cellsOf 179 = 1 := by kernel_rfl
theorem cells193 : Tryd.prog.cellsOf 193 = 20 := by kernel_rfl
theorem pow10 : (Rows.laid_internal_strconv_uint64pow10 : DataW Unit) = Lib.tabData .u64 Lib.pow10Tab := by kernel_rfl

/-- The witness: a world laid out as the list says. -/
noncomputable def laidWorld (os : Os) : World := World.laidAll Tryd.prog os Rows.dayReadLogsRow.laid
theorem laid_met (os : Os) (args : Array Value) : laidMet Tryd.prog Rows.dayReadLogsRow.laid ((laidWorld os).forCall (fun _ _ => 0) ⟨#[], args, []⟩).memory :=
  laidMet_laidAll args (by kernel_rfl) (by kernel_rfl)
def arg0 : Array Value := #[.string ⟨#[]⟩]
theorem witness_row (os : Os) {H : Type} (enc : TypeId × Value → H) :
    (OpenSpec.ofChange Rows.dayReadLogsSpec).preRow enc Tryd.prog Tryd.f5 Rows.dayReadLogsRow.domain false Rows.dayReadLogsRow.laid ((laidWorld os).forCall (fun _ _ => 0) ⟨#[], arg0, []⟩).memory arg0 := by
  have hw : (DataW.whole enc Tryd.prog ((laidWorld os).forCall (fun _ _ => 0) ⟨#[], arg0, []⟩).memory Tryd.f5.params.toList (OpenSpec.ofChange Rows.dayReadLogsSpec).vars false arg0.toList 8).map (fun x => (x.1, x.2.1)) =
      some ([.lit (.string [])], []) := by kernel_rfl
  obtain ⟨⟨x1, x2, x3⟩, hx, hx1⟩ := Option.map_eq_some_iff.1 hw
  simp only [Prod.mk.injEq] at hx1
  obtain ⟨rfl, rfl⟩ := hx1
  exact OpenSpec.preRow_of_cond 8 hx (by kernel_rfl) (fun k hk => by cases hk) (by kernel_rfl) (laid_met os _)

theorem star : "*" ++ "errors.errorString" = "*errors.errorString" := by decide
theorem typed (u : TypeId) (h : Tryd.prog.typeName? 3 u = some "*errors.errorString") : u = 208 :=
  typeName_ptr_named (nm := "errors.errorString") (by rw [star]; kernel_rfl) (by kernel_rfl) (by decide) u (by rw [star]; exact h)
theorem sentinels {W : World} (hL : laidMet Tryd.prog Rows.dayReadLogsRow.laid W) : LaidV Tryd.prog W := by
  have hE : laidMet Tryd.prog (Rows.dayReadLogsRow.laid.drop 4) W := hL.tail.tail.tail.tail
  have hS : laidMet Tryd.prog (Rows.dayReadLogsRow.laid.drop 5) W := hE.tail
  intro g hg
  have key : ∀ n, Tryd.prog.globalNamed n = some g → (∃ (a : Addr) (s : ByteArray), W.var? Tryd.prog n = some #[.iface 208 (.pointer (some a))] ∧ W.cell? a = some (.string s)) → ∃ t p, W.cell? ⟨g, 0, none⟩ = some (.iface t p) := by
    rintro n hn ⟨a, s, h1, _⟩
    exact ⟨_, _, by simpa using World.var?_cell hn h1 0⟩
  rcases hg with hg | hg
  · refine key _ hg ?_
    obtain ⟨a, s, h1, h2, _⟩ := laid_sentinel (ti := 110) (tp := 208) (te := 210) (ts := 9) (n := "strconv.ErrSyntax") (r := Rows.dayReadLogsRow.laid.drop 6) hS (show Tryd.prog.globalNamed "strconv.ErrSyntax" = some 2 by kernel_rfl) (by kernel_rfl) Tryd.underlying110 (fun u hu => typed u hu) Tryd.underlying208 Tryd.underlying210 rfl rfl Tryd.underlying9 (by kernel_rfl) (by kernel_rfl)
    exact ⟨a, s, h1, h2⟩
  · refine key _ hg ?_
    obtain ⟨a, s, h1, h2, _⟩ := laid_sentinel (ti := 110) (tp := 208) (te := 210) (ts := 9) (n := "strconv.ErrRange") (r := Rows.dayReadLogsRow.laid.drop 5) hE (show Tryd.prog.globalNamed "strconv.ErrRange" = some 3 by kernel_rfl) (by kernel_rfl) Tryd.underlying110 (fun u hu => typed u hu) Tryd.underlying208 Tryd.underlying210 rfl rfl Tryd.underlying9 (by kernel_rfl) (by kernel_rfl)
    exact ⟨a, s, h1, h2⟩

set_option maxRecDepth 100000 in
theorem lifted (os : Os) (started : os.Started) (H : Type) (enc : TypeId × Value → H) (F : Stop.Interp) :
    ReturnsInHanded {} Tryd.checked os 5 .any ((OpenSpec.ofChange Rows.dayReadLogsSpec).preRow enc Tryd.prog Tryd.f5 Rows.dayReadLogsRow.domain false Rows.dayReadLogsRow.laid) (((OpenSpec.ofChange Rows.dayReadLogsSpec).at F).post enc Tryd.prog Tryd.f5 false true false false) := by
  refine returnsInHanded_of_row (C := Tryd.checked) (s := (OpenSpec.ofChange Rows.dayReadLogsSpec)) own started (by kernel_rfl) Tryd.func5
    (witness_row_atRef (enc := enc) (C := Tryd.checked) false (laidWorld os) arg0 (World.laidAll_os _ _ _) (by kernel_rfl) (by kernel_rfl) (by kernel_rfl) (witness_row os enc)) ?_
  intro W base args ds gs before hval0 hW _ hcond0 hsz0 hL hsh _
  have hlaid : Laid Tryd.prog W := by
    refine ⟨fun g hg => ?_, fun _ => hsh, sentinels (by first | exact hL | (simpa [laidMetH] using hL))⟩
    have hr := Lib.laidMet.reads (P := Tryd.prog) (w := W) (l := Rows.dayReadLogsRow.laid) hL
      (n := "internal/strconv.uint64pow10") (d := Rows.laid_internal_strconv_uint64pow10) (.tail _ (.tail _ (.head _)))
    obtain ⟨g', t, cs, fuel, p, h1, h2, h3, h4⟩ := hr
    obtain rfl := Option.some.inj (gT.symm.trans h1)
    obtain rfl := Option.some.inj (gTType.symm.trans h2)
    rw [pow10] at h4
    unfold Lib.TabIs
    rw [h3, ← Lib.cells_of_tab Tryd.underlying193 Tryd.underlying179 cells51 cells193 h4]
  have hsz : (DataW.weightsEach Tryd.prog (Tryd.f5.params.toList ++ (OpenSpec.ofChange Rows.dayReadLogsSpec).bare.plain.varTypes Tryd.prog) (ds ++ gs)).all (· ≤ reachBytes) = true := hsz0
  have hval : ∀ (j : Nat) t v, Tryd.f5.params[j]? = some t → args[j]? = some v → Value.okWide Tryd.prog W .any base t v := hval0
  have hW' := hW
  obtain ⟨p, q, hA0, hV, rfl, hfz, hnd⟩ := hW
  have hA : DataW.TrodAll enc Tryd.prog W 0 (fun _ => true) true Tryd.f5.params.toList args.toList ds p := hA0
  obtain ⟨rfl, rfl⟩ := trodVars_none hV
  have hk : ∀ k ∈ DataW.weightsEach Tryd.prog Tryd.f5.params.toList ds, k ≤ reachBytes := fun k hk => by
    simpa using List.all_eq_true.1 hsz k (weights_app _ _ (trodAll_len _ _ _ _ hA) k hk)
  rw [Tryd.params5] at hA hval hk
  obtain ⟨xs, e0, e1, e2⟩ := open_args (m := 12) _ _ _ _ (by kernel_rfl) (fun j t v ht hv => hval j t v (by simpa using ht) (by simpa using hv)) hA hk
  clear hA0 hval0 hsz0 hsz hk
  have hc := PCall.run (law5 xs e1) hlaid e2
  rw [Array.toArray_toList] at hc
  refine hc.mono ?_
  rintro e W' ⟨rfl, bel⟩
  have hA2 := hA
  obtain ⟨v0, vs0, d0, ds0, p0, q0, hargs0, rfl, rfl, h0, r0⟩ := trodAll_cons hA2
  obtain ⟨_, rfl, rfl⟩ := trodAll_nil r0
  exact ⟨_, rfl, _, _, _, [], _, [], hW', trodAll_mk1 (shut_bool Tryd.underlying4 _), args_stay laidOut bel _ _ _ _ (by kernel_rfl) hA, rfl, bel.frame _, fun h => by cases h⟩

theorem over : Rows.DayReadLogsSaid :=
  OpenClaim.holds_of_cond 5 Tryd.f5 rfl rfl rfl rfl rfl rfl rfl ⟨rfl, rfl, rfl, rfl, rfl⟩ rfl rfl rfl rfl rfl (by kernel_rfl) Tryd.func5 (by kernel_rfl)
    (of_decide_eq_true (by kernel_rfl)) (by unfold Func.isWrapper; first | (rw [if_pos (by decide +kernel)]; kernel_rfl) | (rw [if_neg (by decide +kernel)]; exact ⟨rfl, rfl⟩))
    (fun os started H enc _ F0 => by rw [OpenClaim.pre_eq_preRow]; exact lifted os started H enc F0)

theorem card : Rows.DayReadLogsCardSaid :=
  Claim7.holds_tied_plain_at .later [] _ _ _ _
    over (fun _ h => by cases h) (by kernel_rfl) (fun _ h => by cases h) dayReadLogs_row_tie rfl ⟨rfl, rfl⟩ (by kernel_rfl) rfl
    (fun f fn hf hfn => by
      obtain rfl : f = 5 := Option.some.inj ((show Tryd.prog.funcNamed "fishplate/fishlaw1.DayReadLogs" = some 5 by kernel_rfl).symm.trans hf) |>.symm
      obtain rfl : fn = Tryd.f5 := (Option.some.inj (Tryd.func5.symm.trans hfn)).symm
      exact ⟨by kernel_rfl, fun j t ht => by
        rw [Tryd.params5] at ht
        have h3 : t = 9 := by
          rcases j with _ | j
          · simpa using ht.symm
          · simp at ht
        subst h3
        exact (show Tryd.prog.wantsStandIn 9 = false by kernel_rfl)⟩)
    (by kernel_rfl)
end Go.Proofs.YtkfhieigdlfbeaaDoor.dayReadLogs
namespace Go.Proofs.YtkfhieigdlfbeaaDoor
set_option linter.unusedSimpArgs false
set_option linter.unusedVariables false
/-- The card, under a short name, for the claim. -/
theorem dayReadLogs_holds : Rows.DayReadLogsCardSaid := dayReadLogs.card
end Go.Proofs.YtkfhieigdlfbeaaDoor
