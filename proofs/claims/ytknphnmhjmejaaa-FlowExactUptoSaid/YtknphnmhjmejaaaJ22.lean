/- Joined texts: LawFlowExact. No conditions but those of each. -/
import Derived.Test.YtknphnmhjmejaaaJ21
import Derived.Test.YtknphnmhjmejaaaJ20
import Derived.Test.YtknphnmhjmejaaaChecked
/-  gantrylaw13.FlowExact holds of every list of codes that is read of bulk at most 1048576. No conditions but that one. -/
namespace Go.Proofs.Ytknphnmhjmejaaa
open Go.ChangeShapes Go.WideShapes Go.ChangeAt Go.RowKit
set_option linter.unusedVariables false
set_option maxRecDepth 100000 in
theorem FlowExact_lifted (os : Os) (started : os.Started) (H : Type) (enc : TypeId × Value → H) (F : Stop.Interp) :
    ReturnsInHanded {} Try.checked os 5 .any ((Rows.OpenSpec.upto Rows.flowExactSpec).pre6 enc Try.prog Try.f5 Rows.flowExactUptoRow.domain false) (((Rows.OpenSpec.upto Rows.flowExactSpec).at F).post enc Try.prog Try.f5 false true false false) := by
  refine returnsInHanded_of_cond (C := Try.checked) (s := Rows.OpenSpec.upto Rows.flowExactSpec) (k := Rows.uptoSmall) rfl own0 started (by kernel_rfl) Try.func5
    (OpenSpec.witness (enc := enc) (C := Try.checked) (s := Rows.OpenSpec.upto Rows.flowExactSpec) (k := Rows.uptoSmall) rfl false ⟨#[], #[.slice none 0 0], []⟩ 8 (by kernel_rfl) (by kernel_rfl) (by kernel_rfl)
      (x := ([.nil], [], [])) (by kernel_rfl) rfl (by kernel_rfl)) ?_
  intro W base args ds gs before hval hW _ hk _
  exact row_contract (s := Rows.flowExactSpec) (t := 22) (tb := 4) laid0 (by kernel_rfl) (of_decide_eq_true (by kernel_rfl)) u_bool (by kernel_rfl) ⟨_, u_codes⟩ (by kernel_rfl) rfl (fun d => rfl) good_w13_FlowExact (fun X a h => FlowExact_spec h) hval reads_codes hW hk
theorem FlowExact_over : Rows.flowExactUptoRow.holds Try.pinned (Rows.OpenSpec.upto Rows.flowExactSpec) :=
  OpenClaim.holds_of_cond 5 Try.f5 rfl rfl rfl rfl rfl rfl rfl ⟨rfl, rfl, rfl, rfl, rfl⟩ rfl rfl rfl rfl rfl (by kernel_rfl) Try.func5 (by kernel_rfl)
    (of_decide_eq_true (by kernel_rfl)) (by unfold Func.isWrapper; first | (rw [if_pos (by decide +kernel)]; kernel_rfl) | (rw [if_neg (by decide +kernel)]; exact ⟨rfl, rfl⟩))
    (fun os started H enc _ F => FlowExact_lifted os started H enc F)
theorem FlowExact_upto : Rows.FlowExactUptoSaid := FlowExact_over
#print axioms FlowExact_upto
end Go.Proofs.Ytknphnmhjmejaaa
