/- RunConflicts: the row of the law where what it reads is of bulk at most 1048576. -/
import Derived.Test.YthbdjgjpocfneaaRows
import Derived.Test.YthbdjgjpocfneaaC12
import Derived.WalkKit
import Derived.ProofKit
import Derived.OpenShut
import Derived.ShutString
import Derived.ChangeOld
import Derived.Below
import Derived.SizedLaws
import Derived.JoinedCond
import Derived.Deep.CondSized
namespace Go.Proofs.Ythbdjgjpocfneaa.runConflictsUpto
open Go.ChangeShapes Go.WideShapes Go.ChangeAt Go.RowKit Go.AB
set_option linter.unusedVariables false
theorem own : ownKnob Try.prog.godebug = none := by kernel_rfl
theorem laidOut : laidOutB Try.prog = true := by kernel_rfl
mutual
theorem bulk_eq {H : Type} : ∀ d : DataW H, Rows.uptoBulk d = bulkW d
  | .lit l => by cases l <;> simp [Rows.uptoBulk, bulkW]
  | .nil => by simp [Rows.uptoBulk, bulkW]
  | .ptr d => by simp [Rows.uptoBulk, bulkW, bulk_eq d]
  | .slice elems spare => by simp [Rows.uptoBulk, bulkW, bulks_eq elems, bulks_eq spare]
  | .agg parts => by simp [Rows.uptoBulk, bulkW, bulks_eq parts]
  | .iface _ d => by simp [Rows.uptoBulk, bulkW, bulk_eq d]
  | .map entries => by simp [Rows.uptoBulk, bulkW, bulke_eq entries]
  | .held _ => by simp [Rows.uptoBulk, bulkW]
theorem bulks_eq {H : Type} : ∀ l : List (DataW H), Rows.uptoBulkAll l = bulkWs l
  | [] => by simp [Rows.uptoBulkAll, bulkWs]
  | d :: r => by simp [Rows.uptoBulkAll, bulkWs, bulk_eq d, bulks_eq r]
theorem bulke_eq {H : Type} : ∀ l : List (Lit × DataW H), Rows.uptoBulkEntries l = bulkWe l
  | [] => by simp [Rows.uptoBulkEntries, bulkWe]
  | x :: r => by simp [Rows.uptoBulkEntries, bulkWe, bulk1_eq x, bulke_eq r]
theorem bulk1_eq {H : Type} : ∀ x : Lit × DataW H, Rows.uptoBulkEntry x = bulkW1 x
  | (l, d) => by cases l <;> simp [Rows.uptoBulkEntry, bulkW1, bulk_eq d]
end
set_option maxRecDepth 100000 in
theorem lifted (os : Os) (started : os.Started) (H : Type) (enc : TypeId × Value → H) (F : Stop.Interp) :
    ReturnsInHanded {} Try.checked os 11 .any ((Rows.OpenSpec.upto Rows.runConflictsSpec).pre6 enc Try.prog Try.f11 Rows.runConflictsUptoRow.domain false) (((Rows.OpenSpec.upto Rows.runConflictsSpec).at F).post enc Try.prog Try.f11 false true false false) := by
  refine returnsInHanded_of_cond_sized (C := Try.checked) (s := Rows.OpenSpec.upto Rows.runConflictsSpec) (k := Rows.uptoSmall) rfl own started (by kernel_rfl) Try.func11
    (OpenSpec.witness (enc := enc) (C := Try.checked) (s := Rows.OpenSpec.upto Rows.runConflictsSpec) (k := Rows.uptoSmall) rfl false ⟨#[], #[.slice none 0 0, .slice none 0 0], []⟩ 8 (by kernel_rfl) (by kernel_rfl) (by kernel_rfl)
      (x := ([.nil, .nil], [], [])) (by kernel_rfl) rfl (by kernel_rfl)) ?_
  intro W base args ds gs before hval0 hW hcnd hk0 hsz0 _
  have hsz : (DataW.weightsEach Try.prog (Try.f11.params.toList ++ Rows.runConflictsSpec.plain.varTypes Try.prog) (ds ++ gs)).all (· ≤ reachBytes) = true := hsz0
  have hval : ∀ (j : Nat) t v, Try.f11.params[j]? = some t → args[j]? = some v → Value.okWide Try.prog W .any base t v := hval0
  have hW' := hW
  obtain ⟨p, q, hA0, hV, rfl, hfz, hnd⟩ := hW
  have hA : DataW.TrodAll enc Try.prog W 0 (fun _ => true) true Try.f11.params.toList args.toList ds p := hA0
  obtain ⟨rfl, rfl⟩ := trodVars_none hV
  have hkb : bulkWs ds ≤ 1048576 := by
    have h : Rows.uptoBulkAll (ds ++ []) ≤ 1048576 := of_decide_eq_true hk0
    rw [List.append_nil] at h
    rw [← bulks_eq]; exact h
  have hk : ∀ k ∈ DataW.weightsEach Try.prog Try.f11.params.toList ds, k ≤ reachBytes := fun k hk => by
    simpa using List.all_eq_true.1 hsz k (weights_app _ _ (trodAll_len _ _ _ _ hA) k hk)
  rw [Try.params11] at hA hval hk
  obtain ⟨xs, e0, e1, e2⟩ := open_args (m := 12) _ _ _ _ (by kernel_rfl) (fun j t v ht hv => hval j t v (by simpa using ht) (by simpa using hv)) hA hk
  clear hA0 hval0 hsz0 hsz hk
  have hc := PCall.run (law11 xs e1 (Nat.le_trans e0 hkb)) e2
  rw [Array.toArray_toList] at hc
  refine hc.mono ?_
  rintro e W' ⟨rfl, bel⟩
  have hA2 := hA
  obtain ⟨v0, vs0, d0, ds0, p0, q0, hargs0, rfl, rfl, h0, r0⟩ := trodAll_cons hA2
  obtain ⟨v1, vs1, d1, ds1, p1, q1, hargs1, rfl, rfl, h1, r1⟩ := trodAll_cons r0
  obtain ⟨_, rfl, rfl⟩ := trodAll_nil r1
  exact ⟨_, rfl, _, _, _, [], _, [], hW', trodAll_mk1 (shut_bool Try.underlying4 _), args_stay laidOut bel _ _ _ _ (by kernel_rfl) hA, rfl, bel.frame _, fun h => by cases h⟩
theorem over : Rows.runConflictsUptoRow.holds Try.pinned (Rows.OpenSpec.upto Rows.runConflictsSpec) :=
  OpenClaim.holds_of_cond 11 Try.f11 rfl rfl rfl rfl rfl rfl rfl ⟨rfl, rfl, rfl, rfl, rfl⟩ rfl rfl rfl rfl rfl (by kernel_rfl) Try.func11 (by kernel_rfl)
    (of_decide_eq_true (by kernel_rfl)) (by unfold Func.isWrapper; first | (rw [if_pos (by decide +kernel)]; kernel_rfl) | (rw [if_neg (by decide +kernel)]; exact ⟨rfl, rfl⟩))
    (fun os started H enc _ F => lifted os started H enc F)
theorem proved : Rows.RunConflictsUptoSaid := over
end Go.Proofs.Ythbdjgjpocfneaa.runConflictsUpto
namespace Go.Proofs.Ythbdjgjpocfneaa
/-- The row, under a short name, for the claim. -/
theorem runConflicts_upto_holds : Rows.RunConflictsUptoSaid := runConflictsUpto.proved
end Go.Proofs.Ythbdjgjpocfneaa
