/-
  No cell of these rows narrows 'for every input' (looked for: loops, veiled, ifaces, maps, wideKeys, modest, calm, conditions, laid).
  DERIVED. THE GIVEN ROWS OF THIS SEAT. 5 by the template 'for every input the law returns true; each argument reads behind the call as it read before'; 0 by the template 'total and deterministic' (their statements: YtpnghlibmpainaaGreatTotals.lean).
  GIVEN WITH THE SEED: the statements are not yours to turn. If you find one false, say at which input.
  Laid BY PROGRAM, IN A SANDBOX (cutbox-rows.mjs): the forced cells as the released guide's own fill.sh prints them over the translation fd90cb84459a1ff0… (all of the seat's roots in one cut). By AI agents, Wed Nov 11 2026. No macro, syntax, notation, axiom, sorry.
-/
import Derived.Test.YtpnghlibmpainaaGreatChecked
import GoSem.Claim
import GoSem.ClaimJoined
import GoSem.ClaimMapViews
import Derived.JoinedTies
import Derived.KernelRfl
namespace Go.Proofs.YtpnghlibmpainaaGreat
/- THE CELL 'sum', in the pinned program and in every row, IS THE sha256 OF THE DUMP (.gsa) THAT YtpnghlibmpainaaGreatProg.lean LOADS. Nothing in Lean hashes anything: it is a label: what it is worth is what the hold of that sum in a sandbox is worth. -/
noncomputable def Tryz.pinned : Pinned := { name := "ytpnghlibmpainaagreat", sum := "fd90cb84459a1ff003db131251b5ca34cb9e3a708e71fa6d863138fcdc743f34", checked := Tryz.checked }
namespace Rows
def none {H : Type} : Left H := { results := [], args := [] }

/-- 'timetablelaw32.ExamsRelations': WHATEVER THE INPUT: true; the input reads as it did. -/
def examsRelationsSpec : ChangeSpec := { name := "examsRelations", fn := fun _ => fun
  | [d1, d2, d3, d4] => { results := [.lit (.bool true)], args := [d1, d2, d3, d4] }
  | _ => none }
def examsRelationsRow : OpenClaim := { program := "ytpnghlibmpainaagreat", sum := "fd90cb84459a1ff003db131251b5ca34cb9e3a708e71fa6d863138fcdc743f34", func := "timetable/timetablelaw32.ExamsRelations", spec := "examsRelations", unfollowed := true, recurses := true, apart := false }
def ExamsRelationsSaid : Prop := examsRelationsRow.holds Tryz.pinned (OpenSpec.ofChange examsRelationsSpec)

/-- ITS FALSE NEIGHBOUR: 'it returns false'. Refute it at one input. -/
def examsRelationsWrong : ChangeSpec := { name := "examsRelations", fn := fun _ => fun
  | [d1, d2, d3, d4] => { results := [.lit (.bool false)], args := [d1, d2, d3, d4] }
  | _ => none }
def ExamsRelationsWrongFalsely : Prop := examsRelationsRow.holds Tryz.pinned (OpenSpec.ofChange examsRelationsWrong)

/-- 'timetablelaw32.ExamsBuilds': WHATEVER THE INPUT: true; the input reads as it did. -/
def examsBuildsSpec : ChangeSpec := { name := "examsBuilds", fn := fun _ => fun
  | [d1, d2] => { results := [.lit (.bool true)], args := [d1, d2] }
  | _ => none }
def examsBuildsRow : OpenClaim := { program := "ytpnghlibmpainaagreat", sum := "fd90cb84459a1ff003db131251b5ca34cb9e3a708e71fa6d863138fcdc743f34", func := "timetable/timetablelaw32.ExamsBuilds", spec := "examsBuilds", unfollowed := true, recurses := true, apart := false }
def ExamsBuildsSaid : Prop := examsBuildsRow.holds Tryz.pinned (OpenSpec.ofChange examsBuildsSpec)

/-- ITS FALSE NEIGHBOUR: 'it returns false'. Refute it at one input. -/
def examsBuildsWrong : ChangeSpec := { name := "examsBuilds", fn := fun _ => fun
  | [d1, d2] => { results := [.lit (.bool false)], args := [d1, d2] }
  | _ => none }
def ExamsBuildsWrongFalsely : Prop := examsBuildsRow.holds Tryz.pinned (OpenSpec.ofChange examsBuildsWrong)

/-- 'timetablelaw32.ExamsFeasible': WHATEVER THE INPUT: true; the input reads as it did. -/
def examsFeasibleSpec : ChangeSpec := { name := "examsFeasible", fn := fun _ => fun
  | [d] => { results := [.lit (.bool true)], args := [d] }
  | _ => none }
def examsFeasibleRow : OpenClaim := { program := "ytpnghlibmpainaagreat", sum := "fd90cb84459a1ff003db131251b5ca34cb9e3a708e71fa6d863138fcdc743f34", func := "timetable/timetablelaw32.ExamsFeasible", spec := "examsFeasible", unfollowed := true, recurses := true, apart := false }
def ExamsFeasibleSaid : Prop := examsFeasibleRow.holds Tryz.pinned (OpenSpec.ofChange examsFeasibleSpec)

/-- ITS FALSE NEIGHBOUR: 'it returns false'. Refute it at one input. -/
def examsFeasibleWrong : ChangeSpec := { name := "examsFeasible", fn := fun _ => fun
  | [d] => { results := [.lit (.bool false)], args := [d] }
  | _ => none }
def ExamsFeasibleWrongFalsely : Prop := examsFeasibleRow.holds Tryz.pinned (OpenSpec.ofChange examsFeasibleWrong)

/-- 'timetablelaw32.ExamsStrains': WHATEVER THE INPUT: true; the input reads as it did. -/
def examsStrainsSpec : ChangeSpec := { name := "examsStrains", fn := fun _ => fun
  | [d1, d2] => { results := [.lit (.bool true)], args := [d1, d2] }
  | _ => none }
def examsStrainsRow : OpenClaim := { program := "ytpnghlibmpainaagreat", sum := "fd90cb84459a1ff003db131251b5ca34cb9e3a708e71fa6d863138fcdc743f34", func := "timetable/timetablelaw32.ExamsStrains", spec := "examsStrains", unfollowed := true, recurses := true, apart := false }
def ExamsStrainsSaid : Prop := examsStrainsRow.holds Tryz.pinned (OpenSpec.ofChange examsStrainsSpec)

/-- ITS FALSE NEIGHBOUR: 'it returns false'. Refute it at one input. -/
def examsStrainsWrong : ChangeSpec := { name := "examsStrains", fn := fun _ => fun
  | [d1, d2] => { results := [.lit (.bool false)], args := [d1, d2] }
  | _ => none }
def ExamsStrainsWrongFalsely : Prop := examsStrainsRow.holds Tryz.pinned (OpenSpec.ofChange examsStrainsWrong)

/-- 'timetablelaw32.ExamsCosts': WHATEVER THE INPUT: true; the input reads as it did. -/
def examsCostsSpec : ChangeSpec := { name := "examsCosts", fn := fun _ => fun
  | [d] => { results := [.lit (.bool true)], args := [d] }
  | _ => none }
def examsCostsRow : OpenClaim := { program := "ytpnghlibmpainaagreat", sum := "fd90cb84459a1ff003db131251b5ca34cb9e3a708e71fa6d863138fcdc743f34", func := "timetable/timetablelaw32.ExamsCosts", spec := "examsCosts", unfollowed := true, recurses := true, apart := false }
def ExamsCostsSaid : Prop := examsCostsRow.holds Tryz.pinned (OpenSpec.ofChange examsCostsSpec)

/-- ITS FALSE NEIGHBOUR: 'it returns false'. Refute it at one input. -/
def examsCostsWrong : ChangeSpec := { name := "examsCosts", fn := fun _ => fun
  | [d] => { results := [.lit (.bool false)], args := [d] }
  | _ => none }
def ExamsCostsWrongFalsely : Prop := examsCostsRow.holds Tryz.pinned (OpenSpec.ofChange examsCostsWrong)

/- THE SECOND FORM. 'bulk': how many values and letters a reading holds, each counted each time it is reached (what is shared counts as often as it is met; a slice's spare places count too). A statement '..UptoSaid' is the law's where the arguments, and the package variables that the reading takes, are together of bulk at most 1048576: NARROWER than '..Said'. Prove '..Said' where nothing that the law and all that it calls make is longer than what came in: it says more and counts as full. Else prove '..UptoSaid'. A law counts once. -/
mutual
def uptoBulk {H : Type} : DataW H → Nat
  | .lit (.string bytes) => bytes.length + 1
  | .lit _ => 1
  | .nil => 1
  | .ptr d => uptoBulk d + 1
  | .slice elems spare => uptoBulkAll elems + uptoBulkAll spare + 1
  | .agg parts => uptoBulkAll parts + 1
  | .iface _ d => uptoBulk d + 1
  | .map entries => uptoBulkEntries entries + 1
  | .held _ => 1
def uptoBulkAll {H : Type} : List (DataW H) → Nat
  | [] => 0
  | d :: r => uptoBulk d + uptoBulkAll r
def uptoBulkEntries {H : Type} : List (Lit × DataW H) → Nat
  | [] => 0
  | x :: r => uptoBulkEntry x + uptoBulkEntries r
def uptoBulkEntry {H : Type} : Lit × DataW H → Nat
  | (.string bytes, d) => bytes.length + uptoBulk d + 1
  | (_, d) => uptoBulk d + 1
 end
def uptoSmall : (H : Type) → List (DataW H) → Bool := fun _ ds => decide (uptoBulkAll ds ≤ 1048576)
def OpenSpec.upto (s : _root_.Go.ChangeSpec) : _root_.Go.OpenSpec := { _root_.Go.OpenSpec.ofChange s with cond := some uptoSmall }

/-- 'timetablelaw32.ExamsRelations', WHERE WHAT IT READS IS OF BULK AT MOST 1048576: true; the input reads as it did. -/
def examsRelationsUptoRow : OpenClaim := { program := "ytpnghlibmpainaagreat", sum := "fd90cb84459a1ff003db131251b5ca34cb9e3a708e71fa6d863138fcdc743f34", func := "timetable/timetablelaw32.ExamsRelations", spec := "examsRelations", unfollowed := true, recurses := true, apart := false, narrowed := true }
def ExamsRelationsUptoSaid : Prop := examsRelationsUptoRow.holds Tryz.pinned (OpenSpec.upto examsRelationsSpec)

/-- 'timetablelaw32.ExamsBuilds', WHERE WHAT IT READS IS OF BULK AT MOST 1048576: true; the input reads as it did. -/
def examsBuildsUptoRow : OpenClaim := { program := "ytpnghlibmpainaagreat", sum := "fd90cb84459a1ff003db131251b5ca34cb9e3a708e71fa6d863138fcdc743f34", func := "timetable/timetablelaw32.ExamsBuilds", spec := "examsBuilds", unfollowed := true, recurses := true, apart := false, narrowed := true }
def ExamsBuildsUptoSaid : Prop := examsBuildsUptoRow.holds Tryz.pinned (OpenSpec.upto examsBuildsSpec)

/-- 'timetablelaw32.ExamsFeasible', WHERE WHAT IT READS IS OF BULK AT MOST 1048576: true; the input reads as it did. -/
def examsFeasibleUptoRow : OpenClaim := { program := "ytpnghlibmpainaagreat", sum := "fd90cb84459a1ff003db131251b5ca34cb9e3a708e71fa6d863138fcdc743f34", func := "timetable/timetablelaw32.ExamsFeasible", spec := "examsFeasible", unfollowed := true, recurses := true, apart := false, narrowed := true }
def ExamsFeasibleUptoSaid : Prop := examsFeasibleUptoRow.holds Tryz.pinned (OpenSpec.upto examsFeasibleSpec)

/-- 'timetablelaw32.ExamsStrains', WHERE WHAT IT READS IS OF BULK AT MOST 1048576: true; the input reads as it did. -/
def examsStrainsUptoRow : OpenClaim := { program := "ytpnghlibmpainaagreat", sum := "fd90cb84459a1ff003db131251b5ca34cb9e3a708e71fa6d863138fcdc743f34", func := "timetable/timetablelaw32.ExamsStrains", spec := "examsStrains", unfollowed := true, recurses := true, apart := false, narrowed := true }
def ExamsStrainsUptoSaid : Prop := examsStrainsUptoRow.holds Tryz.pinned (OpenSpec.upto examsStrainsSpec)

/-- 'timetablelaw32.ExamsCosts', WHERE WHAT IT READS IS OF BULK AT MOST 1048576: true; the input reads as it did. -/
def examsCostsUptoRow : OpenClaim := { program := "ytpnghlibmpainaagreat", sum := "fd90cb84459a1ff003db131251b5ca34cb9e3a708e71fa6d863138fcdc743f34", func := "timetable/timetablelaw32.ExamsCosts", spec := "examsCosts", unfollowed := true, recurses := true, apart := false, narrowed := true }
def ExamsCostsUptoSaid : Prop := examsCostsUptoRow.holds Tryz.pinned (OpenSpec.upto examsCostsSpec)

end Rows
end Go.Proofs.YtpnghlibmpainaaGreat
