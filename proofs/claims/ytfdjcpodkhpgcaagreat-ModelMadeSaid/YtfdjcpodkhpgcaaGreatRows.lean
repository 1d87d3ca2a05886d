/-
  No cell of these rows narrows 'for every input' (looked for: loops, veiled, ifaces, maps, wideKeys, modest, calm, conditions, laid).
  DERIVED. THE GIVEN ROWS OF THIS SEAT. 3 by the template 'for every input the law returns true; each argument reads behind the call as it read before'; 0 by the template 'total and deterministic' (their statements: YtfdjcpodkhpgcaaGreatTotals.lean).
  GIVEN WITH THE SEED: the statements are not yours to turn. If you find one false, say at which input.
  Laid BY PROGRAM, IN A SANDBOX (cutbox-rows.mjs): the forced cells as the released guide's own fill.sh prints them over the translation 3059f9fe817c9eeb… (all of the seat's roots in one cut). By AI agents, Wed Nov 11 2026. No macro, syntax, notation, axiom, sorry.
-/
import Derived.Test.YtfdjcpodkhpgcaaGreatChecked
import GoSem.Claim
import GoSem.ClaimJoined
import GoSem.ClaimMapViews
import Derived.JoinedTies
import Derived.KernelRfl
namespace Go.Proofs.YtfdjcpodkhpgcaaGreat
/- THE CELL 'sum', in the pinned program and in every row, IS THE sha256 OF THE DUMP (.gsa) THAT YtfdjcpodkhpgcaaGreatProg.lean LOADS. Nothing in Lean hashes anything: it is a label: what it is worth is what the hold of that sum in a sandbox is worth. -/
noncomputable def Tryz.pinned : Pinned := { name := "ytfdjcpodkhpgcaagreat", sum := "3059f9fe817c9eeb8b7711643890b9cc444255f3514bbe7279f98a416f143a23", checked := Tryz.checked }
namespace Rows
def none {H : Type} : Left H := { results := [], args := [] }

/-- 'timetablelaw17.ModelValid': WHATEVER THE INPUT: true; the input reads as it did. -/
def modelValidSpec : ChangeSpec := { name := "modelValid", fn := fun _ => fun
  | [d1, d2, d3] => { results := [.lit (.bool true)], args := [d1, d2, d3] }
  | _ => none }
def modelValidRow : OpenClaim := { program := "ytfdjcpodkhpgcaagreat", sum := "3059f9fe817c9eeb8b7711643890b9cc444255f3514bbe7279f98a416f143a23", func := "timetable/timetablelaw17.ModelValid", spec := "modelValid", unfollowed := true, recurses := true, apart := false }
def ModelValidSaid : Prop := modelValidRow.holds Tryz.pinned (OpenSpec.ofChange modelValidSpec)

/-- ITS FALSE NEIGHBOUR: 'it returns false'. Refute it at one input. -/
def modelValidWrong : ChangeSpec := { name := "modelValid", fn := fun _ => fun
  | [d1, d2, d3] => { results := [.lit (.bool false)], args := [d1, d2, d3] }
  | _ => none }
def ModelValidWrongFalsely : Prop := modelValidRow.holds Tryz.pinned (OpenSpec.ofChange modelValidWrong)

/-- 'timetablelaw17.ModelMade': WHATEVER THE INPUT: true; the input reads as it did. -/
def modelMadeSpec : ChangeSpec := { name := "modelMade", fn := fun _ => fun
  | [d] => { results := [.lit (.bool true)], args := [d] }
  | _ => none }
def modelMadeRow : OpenClaim := { program := "ytfdjcpodkhpgcaagreat", sum := "3059f9fe817c9eeb8b7711643890b9cc444255f3514bbe7279f98a416f143a23", func := "timetable/timetablelaw17.ModelMade", spec := "modelMade", unfollowed := true, recurses := true, apart := false }
def ModelMadeSaid : Prop := modelMadeRow.holds Tryz.pinned (OpenSpec.ofChange modelMadeSpec)

/-- ITS FALSE NEIGHBOUR: 'it returns false'. Refute it at one input. -/
def modelMadeWrong : ChangeSpec := { name := "modelMade", fn := fun _ => fun
  | [d] => { results := [.lit (.bool false)], args := [d] }
  | _ => none }
def ModelMadeWrongFalsely : Prop := modelMadeRow.holds Tryz.pinned (OpenSpec.ofChange modelMadeWrong)

/-- 'timetablelaw17.ModelReturns': WHATEVER THE INPUT: true; the input reads as it did. -/
def modelReturnsSpec : ChangeSpec := { name := "modelReturns", fn := fun _ => fun
  | [d] => { results := [.lit (.bool true)], args := [d] }
  | _ => none }
def modelReturnsRow : OpenClaim := { program := "ytfdjcpodkhpgcaagreat", sum := "3059f9fe817c9eeb8b7711643890b9cc444255f3514bbe7279f98a416f143a23", func := "timetable/timetablelaw17.ModelReturns", spec := "modelReturns", unfollowed := true, recurses := true, apart := false }
def ModelReturnsSaid : Prop := modelReturnsRow.holds Tryz.pinned (OpenSpec.ofChange modelReturnsSpec)

/-- ITS FALSE NEIGHBOUR: 'it returns false'. Refute it at one input. -/
def modelReturnsWrong : ChangeSpec := { name := "modelReturns", fn := fun _ => fun
  | [d] => { results := [.lit (.bool false)], args := [d] }
  | _ => none }
def ModelReturnsWrongFalsely : Prop := modelReturnsRow.holds Tryz.pinned (OpenSpec.ofChange modelReturnsWrong)

/- THE SECOND FORM. 'bulk': how many values and letters a reading holds, each counted each time it is reached (what is shared counts as often as it is met; a slice's spare places count too). A statement '..UptoSaid' is the law's where the arguments, and the package variables that the reading takes, are together of bulk at most 1048576: NARROWER than '..Said'. Prove '..Said' where nothing that the law and all that it calls make is longer than what came in: it says more and counts as full. Else prove '..UptoSaid'. A law counts once. -/
mutual
def uptoBulk {H : Type} : DataW H → Nat
  | .lit (.string bytes) => bytes.length + 1
  | .lit _ => 1
  | .nil => 1
  | .ptr d => uptoBulk d + 1
  | .slice elems spare => uptoBulkAll elems + uptoBulkAll spare + 1
  | .agg parts => uptoBulkAll parts + 1
  | .iface _ d => uptoBulk d + 1
  | .map entries => uptoBulkEntries entries + 1
  | .held _ => 1
def uptoBulkAll {H : Type} : List (DataW H) → Nat
  | [] => 0
  | d :: r => uptoBulk d + uptoBulkAll r
def uptoBulkEntries {H : Type} : List (Lit × DataW H) → Nat
  | [] => 0
  | x :: r => uptoBulkEntry x + uptoBulkEntries r
def uptoBulkEntry {H : Type} : Lit × DataW H → Nat
  | (.string bytes, d) => bytes.length + uptoBulk d + 1
  | (_, d) => uptoBulk d + 1
 end
def uptoSmall : (H : Type) → List (DataW H) → Bool := fun _ ds => decide (uptoBulkAll ds ≤ 1048576)
def OpenSpec.upto (s : _root_.Go.ChangeSpec) : _root_.Go.OpenSpec := { _root_.Go.OpenSpec.ofChange s with cond := some uptoSmall }

/-- 'timetablelaw17.ModelValid', WHERE WHAT IT READS IS OF BULK AT MOST 1048576: true; the input reads as it did. -/
def modelValidUptoRow : OpenClaim := { program := "ytfdjcpodkhpgcaagreat", sum := "3059f9fe817c9eeb8b7711643890b9cc444255f3514bbe7279f98a416f143a23", func := "timetable/timetablelaw17.ModelValid", spec := "modelValid", unfollowed := true, recurses := true, apart := false, narrowed := true }
def ModelValidUptoSaid : Prop := modelValidUptoRow.holds Tryz.pinned (OpenSpec.upto modelValidSpec)

/-- 'timetablelaw17.ModelMade', WHERE WHAT IT READS IS OF BULK AT MOST 1048576: true; the input reads as it did. -/
def modelMadeUptoRow : OpenClaim := { program := "ytfdjcpodkhpgcaagreat", sum := "3059f9fe817c9eeb8b7711643890b9cc444255f3514bbe7279f98a416f143a23", func := "timetable/timetablelaw17.ModelMade", spec := "modelMade", unfollowed := true, recurses := true, apart := false, narrowed := true }
def ModelMadeUptoSaid : Prop := modelMadeUptoRow.holds Tryz.pinned (OpenSpec.upto modelMadeSpec)

/-- 'timetablelaw17.ModelReturns', WHERE WHAT IT READS IS OF BULK AT MOST 1048576: true; the input reads as it did. -/
def modelReturnsUptoRow : OpenClaim := { program := "ytfdjcpodkhpgcaagreat", sum := "3059f9fe817c9eeb8b7711643890b9cc444255f3514bbe7279f98a416f143a23", func := "timetable/timetablelaw17.ModelReturns", spec := "modelReturns", unfollowed := true, recurses := true, apart := false, narrowed := true }
def ModelReturnsUptoSaid : Prop := modelReturnsUptoRow.holds Tryz.pinned (OpenSpec.upto modelReturnsSpec)

end Rows
end Go.Proofs.YtfdjcpodkhpgcaaGreat
