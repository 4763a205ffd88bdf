/-  gantrylaw13.FlowPost holds of every list of codes that is read of bulk at most 1048576. No conditions but that one. -/
import Derived.Test.YtknphnmhjmejaaaHi
import Derived.Test.YtknphnmhjmejaaaRow
import Derived.Test.YtknphnmhjmejaaaGb5
import Derived.Test.YtknphnmhjmejaaaChecked
namespace Go.Proofs.Ytknphnmhjmejaaa
open Go.ChangeShapes Go.WideShapes Go.ChangeAt Go.RowKit
set_option linter.unusedVariables false
set_option maxRecDepth 100000 in
theorem FlowPost_lifted (os : Os) (started : os.Started) (H : Type) (enc : TypeId × Value → H) (F : Stop.Interp) :
    ReturnsInHanded {} Try.checked os 3 .any ((Rows.OpenSpec.upto Rows.flowPostSpec).pre6 enc Try.prog Try.f3 Rows.flowPostUptoRow.domain false) (((Rows.OpenSpec.upto Rows.flowPostSpec).at F).post enc Try.prog Try.f3 false true false false) := by
  refine returnsInHanded_of_cond (C := Try.checked) (s := Rows.OpenSpec.upto Rows.flowPostSpec) (k := Rows.uptoSmall) rfl own0 started (by kernel_rfl) Try.func3
    (OpenSpec.witness (enc := enc) (C := Try.checked) (s := Rows.OpenSpec.upto Rows.flowPostSpec) (k := Rows.uptoSmall) rfl false ⟨#[], #[.slice none 0 0], []⟩ 8 (by kernel_rfl) (by kernel_rfl) (by kernel_rfl)
      (x := ([.nil], [], [])) (by kernel_rfl) rfl (by kernel_rfl)) ?_
  intro W base args ds gs before hval hW _ hk _
  exact row_contract (s := Rows.flowPostSpec) (t := 22) (tb := 4) laid0 (by kernel_rfl) (of_decide_eq_true (by kernel_rfl)) u_bool (by kernel_rfl) ⟨_, u_codes⟩ (by kernel_rfl) rfl (fun d => rfl) good_w13_FlowPost (fun X a h => FlowPost_spec h) hval reads_codes hW hk
theorem FlowPost_over : Rows.flowPostUptoRow.holds Try.pinned (Rows.OpenSpec.upto Rows.flowPostSpec) :=
  OpenClaim.holds_of_cond 3 Try.f3 rfl rfl rfl rfl rfl rfl rfl ⟨rfl, rfl, rfl, rfl, rfl⟩ rfl rfl rfl rfl rfl (by kernel_rfl) Try.func3 (by kernel_rfl)
    (of_decide_eq_true (by kernel_rfl)) (by unfold Func.isWrapper; first | (rw [if_pos (by decide +kernel)]; kernel_rfl) | (rw [if_neg (by decide +kernel)]; exact ⟨rfl, rfl⟩))
    (fun os started H enc _ F => FlowPost_lifted os started H enc F)
theorem FlowPost_upto : Rows.FlowPostUptoSaid := FlowPost_over
#print axioms FlowPost_upto
end Go.Proofs.Ytknphnmhjmejaaa
