/-
  No cell of these rows narrows 'for every input' (looked for: loops, veiled, ifaces, maps, wideKeys, modest, calm, conditions, laid).
  DERIVED. THE GIVEN ROWS OF THIS SEAT. 4 by the template 'for every input the law returns true; each argument reads behind the call as it read before'; 0 by the template 'total and deterministic' (their statements: YtknphnmhjmejaaaTotals.lean).
  GIVEN WITH THE SEED: the statements are not yours to turn. If you find one false, say at which input.
  Laid BY PROGRAM, IN A SANDBOX (cutbox-rows.mjs): the forced cells as the released guide's own fill.sh prints them over the translation 287887dc58e9d2b5… (all of the seat's roots in one cut). By AI agents, Wed Nov 11 2026. No macro, syntax, notation, axiom, sorry.
-/
import Derived.Test.YtknphnmhjmejaaaChecked
import GoSem.Claim
import GoSem.ClaimJoined
import GoSem.ClaimMapViews
import Derived.JoinedTies
import Derived.KernelRfl
namespace Go.Proofs.Ytknphnmhjmejaaa
/- THE CELL 'sum', in the pinned program and in every row, IS THE sha256 OF THE DUMP (.gsa) THAT YtknphnmhjmejaaaProg.lean LOADS. Nothing in Lean hashes anything: it is a label: what it is worth is what the hold of that sum in a sandbox is worth. -/
noncomputable def Try.pinned : Pinned := { name := "ytknphnmhjmejaaa", sum := "287887dc58e9d2b52af3a30150277f7f7ba9de16203688f78abef41cda98e183", checked := Try.checked }
namespace Rows
def none {H : Type} : Left H := { results := [], args := [] }

/-- 'gantrylaw13.FlowPost': WHATEVER THE INPUT: true; the input reads as it did. -/
def flowPostSpec : ChangeSpec := { name := "flowPost", fn := fun _ => fun
  | [d] => { results := [.lit (.bool true)], args := [d] }
  | _ => none }
def flowPostRow : OpenClaim := { program := "ytknphnmhjmejaaa", sum := "287887dc58e9d2b52af3a30150277f7f7ba9de16203688f78abef41cda98e183", func := "gantry/gantrylaw13.FlowPost", spec := "flowPost", unfollowed := true, recurses := true, apart := false }
def FlowPostSaid : Prop := flowPostRow.holds Try.pinned (OpenSpec.ofChange flowPostSpec)

/-- ITS FALSE NEIGHBOUR: 'it returns false'. Refute it at one input. -/
def flowPostWrong : ChangeSpec := { name := "flowPost", fn := fun _ => fun
  | [d] => { results := [.lit (.bool false)], args := [d] }
  | _ => none }
def FlowPostWrongFalsely : Prop := flowPostRow.holds Try.pinned (OpenSpec.ofChange flowPostWrong)

/-- 'gantrylaw13.FlowDominates': WHATEVER THE INPUT: true; the input reads as it did. -/
def flowDominatesSpec : ChangeSpec := { name := "flowDominates", fn := fun _ => fun
  | [d] => { results := [.lit (.bool true)], args := [d] }
  | _ => none }
def flowDominatesRow : OpenClaim := { program := "ytknphnmhjmejaaa", sum := "287887dc58e9d2b52af3a30150277f7f7ba9de16203688f78abef41cda98e183", func := "gantry/gantrylaw13.FlowDominates", spec := "flowDominates", unfollowed := true, recurses := true, apart := false }
def FlowDominatesSaid : Prop := flowDominatesRow.holds Try.pinned (OpenSpec.ofChange flowDominatesSpec)

/-- ITS FALSE NEIGHBOUR: 'it returns false'. Refute it at one input. -/
def flowDominatesWrong : ChangeSpec := { name := "flowDominates", fn := fun _ => fun
  | [d] => { results := [.lit (.bool false)], args := [d] }
  | _ => none }
def FlowDominatesWrongFalsely : Prop := flowDominatesRow.holds Try.pinned (OpenSpec.ofChange flowDominatesWrong)

/-- 'gantrylaw13.FlowExact': WHATEVER THE INPUT: true; the input reads as it did. -/
def flowExactSpec : ChangeSpec := { name := "flowExact", fn := fun _ => fun
  | [d] => { results := [.lit (.bool true)], args := [d] }
  | _ => none }
def flowExactRow : OpenClaim := { program := "ytknphnmhjmejaaa", sum := "287887dc58e9d2b52af3a30150277f7f7ba9de16203688f78abef41cda98e183", func := "gantry/gantrylaw13.FlowExact", spec := "flowExact", unfollowed := true, recurses := true, apart := false }
def FlowExactSaid : Prop := flowExactRow.holds Try.pinned (OpenSpec.ofChange flowExactSpec)

/-- ITS FALSE NEIGHBOUR: 'it returns false'. Refute it at one input. -/
def flowExactWrong : ChangeSpec := { name := "flowExact", fn := fun _ => fun
  | [d] => { results := [.lit (.bool false)], args := [d] }
  | _ => none }
def FlowExactWrongFalsely : Prop := flowExactRow.holds Try.pinned (OpenSpec.ofChange flowExactWrong)

/-- 'gantrylaw13.FlowLoops': WHATEVER THE INPUT: true; the input reads as it did. -/
def flowLoopsSpec : ChangeSpec := { name := "flowLoops", fn := fun _ => fun
  | [d] => { results := [.lit (.bool true)], args := [d] }
  | _ => none }
def flowLoopsRow : OpenClaim := { program := "ytknphnmhjmejaaa", sum := "287887dc58e9d2b52af3a30150277f7f7ba9de16203688f78abef41cda98e183", func := "gantry/gantrylaw13.FlowLoops", spec := "flowLoops", unfollowed := true, recurses := true, apart := false }
def FlowLoopsSaid : Prop := flowLoopsRow.holds Try.pinned (OpenSpec.ofChange flowLoopsSpec)

/-- ITS FALSE NEIGHBOUR: 'it returns false'. Refute it at one input. -/
def flowLoopsWrong : ChangeSpec := { name := "flowLoops", fn := fun _ => fun
  | [d] => { results := [.lit (.bool false)], args := [d] }
  | _ => none }
def FlowLoopsWrongFalsely : Prop := flowLoopsRow.holds Try.pinned (OpenSpec.ofChange flowLoopsWrong)

/- THE SECOND FORM. 'bulk': how many values and letters a reading holds, each counted each time it is reached (what is shared counts as often as it is met; a slice's spare places count too). A statement '..UptoSaid' is the law's where the arguments, and the package variables that the reading takes, are together of bulk at most 1048576: NARROWER than '..Said'. Prove '..Said' where nothing that the law and all that it calls make is longer than what came in: it says more and counts as full. Else prove '..UptoSaid'. A law counts once. -/
mutual
def uptoBulk {H : Type} : DataW H → Nat
  | .lit (.string bytes) => bytes.length + 1
  | .lit _ => 1
  | .nil => 1
  | .ptr d => uptoBulk d + 1
  | .slice elems spare => uptoBulkAll elems + uptoBulkAll spare + 1
  | .agg parts => uptoBulkAll parts + 1
  | .iface _ d => uptoBulk d + 1
  | .map entries => uptoBulkEntries entries + 1
  | .held _ => 1
def uptoBulkAll {H : Type} : List (DataW H) → Nat
  | [] => 0
  | d :: r => uptoBulk d + uptoBulkAll r
def uptoBulkEntries {H : Type} : List (Lit × DataW H) → Nat
  | [] => 0
  | x :: r => uptoBulkEntry x + uptoBulkEntries r
def uptoBulkEntry {H : Type} : Lit × DataW H → Nat
  | (.string bytes, d) => bytes.length + uptoBulk d + 1
  | (_, d) => uptoBulk d + 1
 end
def uptoSmall : (H : Type) → List (DataW H) → Bool := fun _ ds => decide (uptoBulkAll ds ≤ 1048576)
def OpenSpec.upto (s : _root_.Go.ChangeSpec) : _root_.Go.OpenSpec := { _root_.Go.OpenSpec.ofChange s with cond := some uptoSmall }

/-- 'gantrylaw13.FlowPost', WHERE WHAT IT READS IS OF BULK AT MOST 1048576: true; the input reads as it did. -/
def flowPostUptoRow : OpenClaim := { program := "ytknphnmhjmejaaa", sum := "287887dc58e9d2b52af3a30150277f7f7ba9de16203688f78abef41cda98e183", func := "gantry/gantrylaw13.FlowPost", spec := "flowPost", unfollowed := true, recurses := true, apart := false, narrowed := true }
def FlowPostUptoSaid : Prop := flowPostUptoRow.holds Try.pinned (OpenSpec.upto flowPostSpec)

/-- 'gantrylaw13.FlowDominates', WHERE WHAT IT READS IS OF BULK AT MOST 1048576: true; the input reads as it did. -/
def flowDominatesUptoRow : OpenClaim := { program := "ytknphnmhjmejaaa", sum := "287887dc58e9d2b52af3a30150277f7f7ba9de16203688f78abef41cda98e183", func := "gantry/gantrylaw13.FlowDominates", spec := "flowDominates", unfollowed := true, recurses := true, apart := false, narrowed := true }
def FlowDominatesUptoSaid : Prop := flowDominatesUptoRow.holds Try.pinned (OpenSpec.upto flowDominatesSpec)

/-- 'gantrylaw13.FlowExact', WHERE WHAT IT READS IS OF BULK AT MOST 1048576: true; the input reads as it did. -/
def flowExactUptoRow : OpenClaim := { program := "ytknphnmhjmejaaa", sum := "287887dc58e9d2b52af3a30150277f7f7ba9de16203688f78abef41cda98e183", func := "gantry/gantrylaw13.FlowExact", spec := "flowExact", unfollowed := true, recurses := true, apart := false, narrowed := true }
def FlowExactUptoSaid : Prop := flowExactUptoRow.holds Try.pinned (OpenSpec.upto flowExactSpec)

/-- 'gantrylaw13.FlowLoops', WHERE WHAT IT READS IS OF BULK AT MOST 1048576: true; the input reads as it did. -/
def flowLoopsUptoRow : OpenClaim := { program := "ytknphnmhjmejaaa", sum := "287887dc58e9d2b52af3a30150277f7f7ba9de16203688f78abef41cda98e183", func := "gantry/gantrylaw13.FlowLoops", spec := "flowLoops", unfollowed := true, recurses := true, apart := false, narrowed := true }
def FlowLoopsUptoSaid : Prop := flowLoopsUptoRow.holds Try.pinned (OpenSpec.upto flowLoopsSpec)

end Rows
end Go.Proofs.Ytknphnmhjmejaaa
