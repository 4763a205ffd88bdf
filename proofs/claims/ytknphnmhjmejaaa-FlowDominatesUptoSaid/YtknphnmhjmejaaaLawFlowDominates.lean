/-  gantrylaw13.FlowDominates holds of every list of codes that is read of bulk at most 1048576. No conditions but that one. -/
import Derived.Test.YtknphnmhjmejaaaDi
import Derived.Test.YtknphnmhjmejaaaRow
import Derived.Test.YtknphnmhjmejaaaD2
import Derived.Test.YtknphnmhjmejaaaChecked
namespace Go.Proofs.Ytknphnmhjmejaaa
open Go.ChangeShapes Go.WideShapes Go.ChangeAt Go.RowKit
set_option linter.unusedVariables false
set_option maxRecDepth 100000 in
theorem FlowDominates_lifted (os : Os) (started : os.Started) (H : Type) (enc : TypeId × Value → H) (F : Stop.Interp) :
    ReturnsInHanded {} Try.checked os 4 .any ((Rows.OpenSpec.upto Rows.flowDominatesSpec).pre6 enc Try.prog Try.f4 Rows.flowDominatesUptoRow.domain false) (((Rows.OpenSpec.upto Rows.flowDominatesSpec).at F).post enc Try.prog Try.f4 false true false false) := by
  refine returnsInHanded_of_cond (C := Try.checked) (s := Rows.OpenSpec.upto Rows.flowDominatesSpec) (k := Rows.uptoSmall) rfl own0 started (by kernel_rfl) Try.func4
    (OpenSpec.witness (enc := enc) (C := Try.checked) (s := Rows.OpenSpec.upto Rows.flowDominatesSpec) (k := Rows.uptoSmall) rfl false ⟨#[], #[.slice none 0 0], []⟩ 8 (by kernel_rfl) (by kernel_rfl) (by kernel_rfl)
      (x := ([.nil], [], [])) (by kernel_rfl) rfl (by kernel_rfl)) ?_
  intro W base args ds gs before hval hW _ hk _
  exact row_contract (s := Rows.flowDominatesSpec) (t := 22) (tb := 4) laid0 (by kernel_rfl) (of_decide_eq_true (by kernel_rfl)) u_bool (by kernel_rfl) ⟨_, u_codes⟩ (by kernel_rfl) rfl (fun d => rfl) good_w13_FlowDominates (fun X a h => FlowDominates_spec h) hval reads_codes hW hk
theorem FlowDominates_over : Rows.flowDominatesUptoRow.holds Try.pinned (Rows.OpenSpec.upto Rows.flowDominatesSpec) :=
  OpenClaim.holds_of_cond 4 Try.f4 rfl rfl rfl rfl rfl rfl rfl ⟨rfl, rfl, rfl, rfl, rfl⟩ rfl rfl rfl rfl rfl (by kernel_rfl) Try.func4 (by kernel_rfl)
    (of_decide_eq_true (by kernel_rfl)) (by unfold Func.isWrapper; first | (rw [if_pos (by decide +kernel)]; kernel_rfl) | (rw [if_neg (by decide +kernel)]; exact ⟨rfl, rfl⟩))
    (fun os started H enc _ F => FlowDominates_lifted os started H enc F)
theorem FlowDominates_upto : Rows.FlowDominatesUptoSaid := FlowDominates_over
#print axioms FlowDominates_upto
end Go.Proofs.Ytknphnmhjmejaaa
