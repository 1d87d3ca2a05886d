/-
  No cell of these rows narrows 'for every input' (looked for: loops, veiled, ifaces, maps, wideKeys, modest, calm, conditions, laid).
  DERIVED. THE GIVEN ROWS OF THIS SEAT. 5 by the template 'for every input the law returns true; each argument reads behind the call as it read before'; 0 by the template 'total and deterministic' (their statements: YtlhakdmenohdnaaTotals.lean).
  GIVEN WITH THE SEED: the statements are not yours to turn. If you find one false, say at which input.
  Laid BY PROGRAM, IN A SANDBOX (cutbox-rows.mjs): the forced cells as the released guide's own fill.sh prints them over the translation b9b990fe0d98f272… (all of the seat's roots in one cut). By AI agents, Wed Nov 11 2026. No macro, syntax, notation, axiom, sorry.
-/
import Derived.Test.YtlhakdmenohdnaaChecked
import GoSem.Claim
import GoSem.ClaimJoined
import GoSem.ClaimMapViews
import Derived.JoinedTies
import Derived.KernelRfl
namespace Go.Proofs.Ytlhakdmenohdnaa
/- THE CELL 'sum', in the pinned program and in every row, IS THE sha256 OF THE DUMP (.gsa) THAT YtlhakdmenohdnaaProg.lean LOADS. Nothing in Lean hashes anything: it is a label: what it is worth is what the hold of that sum in a sandbox is worth. -/
noncomputable def Try.pinned : Pinned := { name := "ytlhakdmenohdnaa", sum := "b9b990fe0d98f272fd3b130f26a96898b4c23c9113447b612060e0497730a305", checked := Try.checked }
namespace Rows
def none {H : Type} : Left H := { results := [], args := [] }

/-- 'timetablelaw24.FlowValid': WHATEVER THE INPUT: true; the input reads as it did. -/
def flowValidSpec : ChangeSpec := { name := "flowValid", fn := fun _ => fun
  | [d1, d2, d3] => { results := [.lit (.bool true)], args := [d1, d2, d3] }
  | _ => none }
def flowValidRow : OpenClaim := { program := "ytlhakdmenohdnaa", sum := "b9b990fe0d98f272fd3b130f26a96898b4c23c9113447b612060e0497730a305", func := "timetable/timetablelaw24.FlowValid", spec := "flowValid", apart := false }
def FlowValidSaid : Prop := flowValidRow.holds Try.pinned (OpenSpec.ofChange flowValidSpec)

/-- ITS FALSE NEIGHBOUR: 'it returns false'. Refute it at one input. -/
def flowValidWrong : ChangeSpec := { name := "flowValid", fn := fun _ => fun
  | [d1, d2, d3] => { results := [.lit (.bool false)], args := [d1, d2, d3] }
  | _ => none }
def FlowValidWrongFalsely : Prop := flowValidRow.holds Try.pinned (OpenSpec.ofChange flowValidWrong)

/-- 'timetablelaw24.FlowLeast': WHATEVER THE INPUT: true; the input reads as it did. -/
def flowLeastSpec : ChangeSpec := { name := "flowLeast", fn := fun _ => fun
  | [d] => { results := [.lit (.bool true)], args := [d] }
  | _ => none }
def flowLeastRow : OpenClaim := { program := "ytlhakdmenohdnaa", sum := "b9b990fe0d98f272fd3b130f26a96898b4c23c9113447b612060e0497730a305", func := "timetable/timetablelaw24.FlowLeast", spec := "flowLeast", apart := false }
def FlowLeastSaid : Prop := flowLeastRow.holds Try.pinned (OpenSpec.ofChange flowLeastSpec)

/-- ITS FALSE NEIGHBOUR: 'it returns false'. Refute it at one input. -/
def flowLeastWrong : ChangeSpec := { name := "flowLeast", fn := fun _ => fun
  | [d] => { results := [.lit (.bool false)], args := [d] }
  | _ => none }
def FlowLeastWrongFalsely : Prop := flowLeastRow.holds Try.pinned (OpenSpec.ofChange flowLeastWrong)

/-- 'timetablelaw24.FlowSolves': WHATEVER THE INPUT: true; the input reads as it did. -/
def flowSolvesSpec : ChangeSpec := { name := "flowSolves", fn := fun _ => fun
  | [d] => { results := [.lit (.bool true)], args := [d] }
  | _ => none }
def flowSolvesRow : OpenClaim := { program := "ytlhakdmenohdnaa", sum := "b9b990fe0d98f272fd3b130f26a96898b4c23c9113447b612060e0497730a305", func := "timetable/timetablelaw24.FlowSolves", spec := "flowSolves", apart := false }
def FlowSolvesSaid : Prop := flowSolvesRow.holds Try.pinned (OpenSpec.ofChange flowSolvesSpec)

/-- ITS FALSE NEIGHBOUR: 'it returns false'. Refute it at one input. -/
def flowSolvesWrong : ChangeSpec := { name := "flowSolves", fn := fun _ => fun
  | [d] => { results := [.lit (.bool false)], args := [d] }
  | _ => none }
def FlowSolvesWrongFalsely : Prop := flowSolvesRow.holds Try.pinned (OpenSpec.ofChange flowSolvesWrong)

/-- 'timetablelaw24.FlowDuality': WHATEVER THE INPUT: true; the input reads as it did. -/
def flowDualitySpec : ChangeSpec := { name := "flowDuality", fn := fun _ => fun
  | [d1, d2, d3, d4] => { results := [.lit (.bool true)], args := [d1, d2, d3, d4] }
  | _ => none }
def flowDualityRow : OpenClaim := { program := "ytlhakdmenohdnaa", sum := "b9b990fe0d98f272fd3b130f26a96898b4c23c9113447b612060e0497730a305", func := "timetable/timetablelaw24.FlowDuality", spec := "flowDuality", apart := false }
def FlowDualitySaid : Prop := flowDualityRow.holds Try.pinned (OpenSpec.ofChange flowDualitySpec)

/-- ITS FALSE NEIGHBOUR: 'it returns false'. Refute it at one input. -/
def flowDualityWrong : ChangeSpec := { name := "flowDuality", fn := fun _ => fun
  | [d1, d2, d3, d4] => { results := [.lit (.bool false)], args := [d1, d2, d3, d4] }
  | _ => none }
def FlowDualityWrongFalsely : Prop := flowDualityRow.holds Try.pinned (OpenSpec.ofChange flowDualityWrong)

/-- 'timetablelaw24.FlowChecks': WHATEVER THE INPUT: true; the input reads as it did. -/
def flowChecksSpec : ChangeSpec := { name := "flowChecks", fn := fun _ => fun
  | [d1, d2, d3, d4, d5, d6, d7] => { results := [.lit (.bool true)], args := [d1, d2, d3, d4, d5, d6, d7] }
  | _ => none }
def flowChecksRow : OpenClaim := { program := "ytlhakdmenohdnaa", sum := "b9b990fe0d98f272fd3b130f26a96898b4c23c9113447b612060e0497730a305", func := "timetable/timetablelaw24.FlowChecks", spec := "flowChecks", apart := false }
def FlowChecksSaid : Prop := flowChecksRow.holds Try.pinned (OpenSpec.ofChange flowChecksSpec)

/-- ITS FALSE NEIGHBOUR: 'it returns false'. Refute it at one input. -/
def flowChecksWrong : ChangeSpec := { name := "flowChecks", fn := fun _ => fun
  | [d1, d2, d3, d4, d5, d6, d7] => { results := [.lit (.bool false)], args := [d1, d2, d3, d4, d5, d6, d7] }
  | _ => none }
def FlowChecksWrongFalsely : Prop := flowChecksRow.holds Try.pinned (OpenSpec.ofChange flowChecksWrong)

/- THE SECOND FORM. 'bulk': how many values and letters a reading holds, each counted each time it is reached (what is shared counts as often as it is met; a slice's spare places count too). A statement '..UptoSaid' is the law's where the arguments, and the package variables that the reading takes, are together of bulk at most 1048576: NARROWER than '..Said'. Prove '..Said' where nothing that the law and all that it calls make is longer than what came in: it says more and counts as full. Else prove '..UptoSaid'. A law counts once. -/
mutual
def uptoBulk {H : Type} : DataW H → Nat
  | .lit (.string bytes) => bytes.length + 1
  | .lit _ => 1
  | .nil => 1
  | .ptr d => uptoBulk d + 1
  | .slice elems spare => uptoBulkAll elems + uptoBulkAll spare + 1
  | .agg parts => uptoBulkAll parts + 1
  | .iface _ d => uptoBulk d + 1
  | .map entries => uptoBulkEntries entries + 1
  | .held _ => 1
def uptoBulkAll {H : Type} : List (DataW H) → Nat
  | [] => 0
  | d :: r => uptoBulk d + uptoBulkAll r
def uptoBulkEntries {H : Type} : List (Lit × DataW H) → Nat
  | [] => 0
  | x :: r => uptoBulkEntry x + uptoBulkEntries r
def uptoBulkEntry {H : Type} : Lit × DataW H → Nat
  | (.string bytes, d) => bytes.length + uptoBulk d + 1
  | (_, d) => uptoBulk d + 1
 end
def uptoSmall : (H : Type) → List (DataW H) → Bool := fun _ ds => decide (uptoBulkAll ds ≤ 1048576)
def OpenSpec.upto (s : _root_.Go.ChangeSpec) : _root_.Go.OpenSpec := { _root_.Go.OpenSpec.ofChange s with cond := some uptoSmall }

/-- 'timetablelaw24.FlowValid', WHERE WHAT IT READS IS OF BULK AT MOST 1048576: true; the input reads as it did. -/
def flowValidUptoRow : OpenClaim := { program := "ytlhakdmenohdnaa", sum := "b9b990fe0d98f272fd3b130f26a96898b4c23c9113447b612060e0497730a305", func := "timetable/timetablelaw24.FlowValid", spec := "flowValid", apart := false, narrowed := true }
def FlowValidUptoSaid : Prop := flowValidUptoRow.holds Try.pinned (OpenSpec.upto flowValidSpec)

/-- 'timetablelaw24.FlowLeast', WHERE WHAT IT READS IS OF BULK AT MOST 1048576: true; the input reads as it did. -/
def flowLeastUptoRow : OpenClaim := { program := "ytlhakdmenohdnaa", sum := "b9b990fe0d98f272fd3b130f26a96898b4c23c9113447b612060e0497730a305", func := "timetable/timetablelaw24.FlowLeast", spec := "flowLeast", apart := false, narrowed := true }
def FlowLeastUptoSaid : Prop := flowLeastUptoRow.holds Try.pinned (OpenSpec.upto flowLeastSpec)

/-- 'timetablelaw24.FlowSolves', WHERE WHAT IT READS IS OF BULK AT MOST 1048576: true; the input reads as it did. -/
def flowSolvesUptoRow : OpenClaim := { program := "ytlhakdmenohdnaa", sum := "b9b990fe0d98f272fd3b130f26a96898b4c23c9113447b612060e0497730a305", func := "timetable/timetablelaw24.FlowSolves", spec := "flowSolves", apart := false, narrowed := true }
def FlowSolvesUptoSaid : Prop := flowSolvesUptoRow.holds Try.pinned (OpenSpec.upto flowSolvesSpec)

/-- 'timetablelaw24.FlowDuality', WHERE WHAT IT READS IS OF BULK AT MOST 1048576: true; the input reads as it did. -/
def flowDualityUptoRow : OpenClaim := { program := "ytlhakdmenohdnaa", sum := "b9b990fe0d98f272fd3b130f26a96898b4c23c9113447b612060e0497730a305", func := "timetable/timetablelaw24.FlowDuality", spec := "flowDuality", apart := false, narrowed := true }
def FlowDualityUptoSaid : Prop := flowDualityUptoRow.holds Try.pinned (OpenSpec.upto flowDualitySpec)

/-- 'timetablelaw24.FlowChecks', WHERE WHAT IT READS IS OF BULK AT MOST 1048576: true; the input reads as it did. -/
def flowChecksUptoRow : OpenClaim := { program := "ytlhakdmenohdnaa", sum := "b9b990fe0d98f272fd3b130f26a96898b4c23c9113447b612060e0497730a305", func := "timetable/timetablelaw24.FlowChecks", spec := "flowChecks", apart := false, narrowed := true }
def FlowChecksUptoSaid : Prop := flowChecksUptoRow.holds Try.pinned (OpenSpec.upto flowChecksSpec)

end Rows
end Go.Proofs.Ytlhakdmenohdnaa
