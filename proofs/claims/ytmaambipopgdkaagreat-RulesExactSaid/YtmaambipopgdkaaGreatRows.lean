/-
  NARROWER THAN 'FOR EVERY INPUT', by the rows' own cells (each row's printed sentence says how): RulesExact: loops · CompileExact: loops · SelectionExact: loops.
  DERIVED. THE GIVEN ROWS OF THIS SEAT. 5 by the template 'for every input the law returns true; each argument reads behind the call as it read before'; 0 by the template 'total and deterministic' (their statements: YtmaambipopgdkaaGreatTotals.lean).
  GIVEN WITH THE SEED: the statements are not yours to turn. If you find one false, say at which input.
  Laid BY PROGRAM, IN A SANDBOX (cutbox-rows.mjs): the forced cells as the released guide's own fill.sh prints them over the translation d2bc880929261a82… (all of the seat's roots in one cut). By AI agents, Wed Nov 11 2026. No macro, syntax, notation, axiom, sorry.
-/
import Derived.Test.YtmaambipopgdkaaGreatChecked
import GoSem.Claim
import GoSem.ClaimJoined
import GoSem.ClaimMapViews
import Derived.JoinedTies
import Derived.KernelRfl
namespace Go.Proofs.YtmaambipopgdkaaGreat
/- THE CELL 'sum', in the pinned program and in every row, IS THE sha256 OF THE DUMP (.gsa) THAT YtmaambipopgdkaaGreatProg.lean LOADS. Nothing in Lean hashes anything: it is a label: what it is worth is what the hold of that sum in a sandbox is worth. -/
noncomputable def Tryz.pinned : Pinned := { name := "ytmaambipopgdkaagreat", sum := "d2bc880929261a8202b5f67e98b04646f3bdb4e10d2bfeff9e95707be9fba76f", checked := Tryz.checked }
namespace Rows
def none {H : Type} : Left H := { results := [], args := [] }

/-- 'timetablelaw17.ModelBuilds': WHATEVER THE INPUT: true; the input reads as it did. -/
def modelBuildsSpec : ChangeSpec := { name := "modelBuilds", fn := fun _ => fun
  | [d1, d2] => { results := [.lit (.bool true)], args := [d1, d2] }
  | _ => none }
def modelBuildsRow : OpenClaim := { program := "ytmaambipopgdkaagreat", sum := "d2bc880929261a8202b5f67e98b04646f3bdb4e10d2bfeff9e95707be9fba76f", func := "timetable/timetablelaw17.ModelBuilds", spec := "modelBuilds", unfollowed := true, recurses := true, apart := false }
def ModelBuildsSaid : Prop := modelBuildsRow.holds Tryz.pinned (OpenSpec.ofChange modelBuildsSpec)

/-- ITS FALSE NEIGHBOUR: 'it returns false'. Refute it at one input. -/
def modelBuildsWrong : ChangeSpec := { name := "modelBuilds", fn := fun _ => fun
  | [d1, d2] => { results := [.lit (.bool false)], args := [d1, d2] }
  | _ => none }
def ModelBuildsWrongFalsely : Prop := modelBuildsRow.holds Tryz.pinned (OpenSpec.ofChange modelBuildsWrong)

/-- 'timetablelaw16.RulesExact': WHATEVER THE INPUT: true; the input reads as it did. -/
def rulesExactSpec : ChangeSpec := { name := "rulesExact", fn := fun _ => fun
  | [d1, d2, d3] => { results := [.lit (.bool true)], args := [d1, d2, d3] }
  | _ => none }
def rulesExactRow : OpenClaim := { program := "ytmaambipopgdkaagreat", sum := "d2bc880929261a8202b5f67e98b04646f3bdb4e10d2bfeff9e95707be9fba76f", func := "timetable/timetablelaw16.RulesExact", spec := "rulesExact", unfollowed := true, recurses := true, loops := true, apart := false }
def RulesExactSaid : Prop := rulesExactRow.holds Tryz.pinned (OpenSpec.ofChange rulesExactSpec)

/-- ITS FALSE NEIGHBOUR: 'it returns false'. Refute it at one input. -/
def rulesExactWrong : ChangeSpec := { name := "rulesExact", fn := fun _ => fun
  | [d1, d2, d3] => { results := [.lit (.bool false)], args := [d1, d2, d3] }
  | _ => none }
def RulesExactWrongFalsely : Prop := rulesExactRow.holds Tryz.pinned (OpenSpec.ofChange rulesExactWrong)

/-- 'timetablelaw16.RulesMeets': WHATEVER THE INPUT: true; the input reads as it did. -/
def rulesMeetsSpec : ChangeSpec := { name := "rulesMeets", fn := fun _ => fun
  | [d1, d2] => { results := [.lit (.bool true)], args := [d1, d2] }
  | _ => none }
def rulesMeetsRow : OpenClaim := { program := "ytmaambipopgdkaagreat", sum := "d2bc880929261a8202b5f67e98b04646f3bdb4e10d2bfeff9e95707be9fba76f", func := "timetable/timetablelaw16.RulesMeets", spec := "rulesMeets", unfollowed := true, recurses := true, apart := false }
def RulesMeetsSaid : Prop := rulesMeetsRow.holds Tryz.pinned (OpenSpec.ofChange rulesMeetsSpec)

/-- ITS FALSE NEIGHBOUR: 'it returns false'. Refute it at one input. -/
def rulesMeetsWrong : ChangeSpec := { name := "rulesMeets", fn := fun _ => fun
  | [d1, d2] => { results := [.lit (.bool false)], args := [d1, d2] }
  | _ => none }
def RulesMeetsWrongFalsely : Prop := rulesMeetsRow.holds Tryz.pinned (OpenSpec.ofChange rulesMeetsWrong)

/-- 'timetablelaw18.CompileExact': WHATEVER THE INPUT: true; the input reads as it did. -/
def compileExactSpec : ChangeSpec := { name := "compileExact", fn := fun _ => fun
  | [d1, d2] => { results := [.lit (.bool true)], args := [d1, d2] }
  | _ => none }
def compileExactRow : OpenClaim := { program := "ytmaambipopgdkaagreat", sum := "d2bc880929261a8202b5f67e98b04646f3bdb4e10d2bfeff9e95707be9fba76f", func := "timetable/timetablelaw18.CompileExact", spec := "compileExact", unfollowed := true, recurses := true, loops := true, apart := false }
def CompileExactSaid : Prop := compileExactRow.holds Tryz.pinned (OpenSpec.ofChange compileExactSpec)

/-- ITS FALSE NEIGHBOUR: 'it returns false'. Refute it at one input. -/
def compileExactWrong : ChangeSpec := { name := "compileExact", fn := fun _ => fun
  | [d1, d2] => { results := [.lit (.bool false)], args := [d1, d2] }
  | _ => none }
def CompileExactWrongFalsely : Prop := compileExactRow.holds Tryz.pinned (OpenSpec.ofChange compileExactWrong)

/-- 'timetablelaw15.SelectionExact': WHATEVER THE INPUT: true; the input reads as it did. -/
def selectionExactSpec : ChangeSpec := { name := "selectionExact", fn := fun _ => fun
  | [d1, d2, d3] => { results := [.lit (.bool true)], args := [d1, d2, d3] }
  | _ => none }
def selectionExactRow : OpenClaim := { program := "ytmaambipopgdkaagreat", sum := "d2bc880929261a8202b5f67e98b04646f3bdb4e10d2bfeff9e95707be9fba76f", func := "timetable/timetablelaw15.SelectionExact", spec := "selectionExact", unfollowed := true, recurses := true, loops := true, apart := false }
def SelectionExactSaid : Prop := selectionExactRow.holds Tryz.pinned (OpenSpec.ofChange selectionExactSpec)

/-- ITS FALSE NEIGHBOUR: 'it returns false'. Refute it at one input. -/
def selectionExactWrong : ChangeSpec := { name := "selectionExact", fn := fun _ => fun
  | [d1, d2, d3] => { results := [.lit (.bool false)], args := [d1, d2, d3] }
  | _ => none }
def SelectionExactWrongFalsely : Prop := selectionExactRow.holds Tryz.pinned (OpenSpec.ofChange selectionExactWrong)

/- THE SECOND FORM. 'bulk': how many values and letters a reading holds, each counted each time it is reached (what is shared counts as often as it is met; a slice's spare places count too). A statement '..UptoSaid' is the law's where the arguments, and the package variables that the reading takes, are together of bulk at most 1048576: NARROWER than '..Said'. Prove '..Said' where nothing that the law and all that it calls make is longer than what came in: it says more and counts as full. Else prove '..UptoSaid'. A law counts once. -/
mutual
def uptoBulk {H : Type} : DataW H → Nat
  | .lit (.string bytes) => bytes.length + 1
  | .lit _ => 1
  | .nil => 1
  | .ptr d => uptoBulk d + 1
  | .slice elems spare => uptoBulkAll elems + uptoBulkAll spare + 1
  | .agg parts => uptoBulkAll parts + 1
  | .iface _ d => uptoBulk d + 1
  | .map entries => uptoBulkEntries entries + 1
  | .held _ => 1
def uptoBulkAll {H : Type} : List (DataW H) → Nat
  | [] => 0
  | d :: r => uptoBulk d + uptoBulkAll r
def uptoBulkEntries {H : Type} : List (Lit × DataW H) → Nat
  | [] => 0
  | x :: r => uptoBulkEntry x + uptoBulkEntries r
def uptoBulkEntry {H : Type} : Lit × DataW H → Nat
  | (.string bytes, d) => bytes.length + uptoBulk d + 1
  | (_, d) => uptoBulk d + 1
 end
def uptoSmall : (H : Type) → List (DataW H) → Bool := fun _ ds => decide (uptoBulkAll ds ≤ 1048576)
def OpenSpec.upto (s : _root_.Go.ChangeSpec) : _root_.Go.OpenSpec := { _root_.Go.OpenSpec.ofChange s with cond := some uptoSmall }

/-- 'timetablelaw17.ModelBuilds', WHERE WHAT IT READS IS OF BULK AT MOST 1048576: true; the input reads as it did. -/
def modelBuildsUptoRow : OpenClaim := { program := "ytmaambipopgdkaagreat", sum := "d2bc880929261a8202b5f67e98b04646f3bdb4e10d2bfeff9e95707be9fba76f", func := "timetable/timetablelaw17.ModelBuilds", spec := "modelBuilds", unfollowed := true, recurses := true, apart := false, narrowed := true }
def ModelBuildsUptoSaid : Prop := modelBuildsUptoRow.holds Tryz.pinned (OpenSpec.upto modelBuildsSpec)

/-- 'timetablelaw16.RulesExact', WHERE WHAT IT READS IS OF BULK AT MOST 1048576: true; the input reads as it did. -/
def rulesExactUptoRow : OpenClaim := { program := "ytmaambipopgdkaagreat", sum := "d2bc880929261a8202b5f67e98b04646f3bdb4e10d2bfeff9e95707be9fba76f", func := "timetable/timetablelaw16.RulesExact", spec := "rulesExact", unfollowed := true, recurses := true, loops := true, apart := false, narrowed := true }
def RulesExactUptoSaid : Prop := rulesExactUptoRow.holds Tryz.pinned (OpenSpec.upto rulesExactSpec)

/-- 'timetablelaw16.RulesMeets', WHERE WHAT IT READS IS OF BULK AT MOST 1048576: true; the input reads as it did. -/
def rulesMeetsUptoRow : OpenClaim := { program := "ytmaambipopgdkaagreat", sum := "d2bc880929261a8202b5f67e98b04646f3bdb4e10d2bfeff9e95707be9fba76f", func := "timetable/timetablelaw16.RulesMeets", spec := "rulesMeets", unfollowed := true, recurses := true, apart := false, narrowed := true }
def RulesMeetsUptoSaid : Prop := rulesMeetsUptoRow.holds Tryz.pinned (OpenSpec.upto rulesMeetsSpec)

/-- 'timetablelaw18.CompileExact', WHERE WHAT IT READS IS OF BULK AT MOST 1048576: true; the input reads as it did. -/
def compileExactUptoRow : OpenClaim := { program := "ytmaambipopgdkaagreat", sum := "d2bc880929261a8202b5f67e98b04646f3bdb4e10d2bfeff9e95707be9fba76f", func := "timetable/timetablelaw18.CompileExact", spec := "compileExact", unfollowed := true, recurses := true, loops := true, apart := false, narrowed := true }
def CompileExactUptoSaid : Prop := compileExactUptoRow.holds Tryz.pinned (OpenSpec.upto compileExactSpec)

/-- 'timetablelaw15.SelectionExact', WHERE WHAT IT READS IS OF BULK AT MOST 1048576: true; the input reads as it did. -/
def selectionExactUptoRow : OpenClaim := { program := "ytmaambipopgdkaagreat", sum := "d2bc880929261a8202b5f67e98b04646f3bdb4e10d2bfeff9e95707be9fba76f", func := "timetable/timetablelaw15.SelectionExact", spec := "selectionExact", unfollowed := true, recurses := true, loops := true, apart := false, narrowed := true }
def SelectionExactUptoSaid : Prop := selectionExactUptoRow.holds Tryz.pinned (OpenSpec.upto selectionExactSpec)

end Rows
end Go.Proofs.YtmaambipopgdkaaGreat
