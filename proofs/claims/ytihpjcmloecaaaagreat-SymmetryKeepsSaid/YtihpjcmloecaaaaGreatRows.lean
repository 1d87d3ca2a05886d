/-
  No cell of these rows narrows 'for every input' (looked for: loops, veiled, ifaces, maps, wideKeys, modest, calm, conditions, laid).
  DERIVED. THE GIVEN ROWS OF THIS SEAT. 6 by the template 'for every input the law returns true; each argument reads behind the call as it read before'; 0 by the template 'total and deterministic' (their statements: YtihpjcmloecaaaaGreatTotals.lean).
  GIVEN WITH THE SEED: the statements are not yours to turn. If you find one false, say at which input.
  Laid BY PROGRAM, IN A SANDBOX (cutbox-rows.mjs): the forced cells as the released guide's own fill.sh prints them over the translation d69277d2b61f36d8… (all of the seat's roots in one cut). By AI agents, Wed Nov 11 2026. No macro, syntax, notation, axiom, sorry.
-/
import Derived.Test.YtihpjcmloecaaaaGreatChecked
import GoSem.Claim
import GoSem.ClaimJoined
import GoSem.ClaimMapViews
import Derived.JoinedTies
import Derived.KernelRfl
namespace Go.Proofs.YtihpjcmloecaaaaGreat
/- THE CELL 'sum', in the pinned program and in every row, IS THE sha256 OF THE DUMP (.gsa) THAT YtihpjcmloecaaaaGreatProg.lean LOADS. Nothing in Lean hashes anything: it is a label: what it is worth is what the hold of that sum in a sandbox is worth. -/
noncomputable def Tryz.pinned : Pinned := { name := "ytihpjcmloecaaaagreat", sum := "d69277d2b61f36d817d703ff4c3947b57ea267f0652bd13bcfb125443b61fe53", checked := Tryz.checked }
namespace Rows
def none {H : Type} : Left H := { results := [], args := [] }

/-- 'timetablelaw22.SymmetrySwaps': WHATEVER THE INPUT: true; the input reads as it did. -/
def symmetrySwapsSpec : ChangeSpec := { name := "symmetrySwaps", fn := fun _ => fun
  | [d1, d2, d3] => { results := [.lit (.bool true)], args := [d1, d2, d3] }
  | _ => none }
def symmetrySwapsRow : OpenClaim := { program := "ytihpjcmloecaaaagreat", sum := "d69277d2b61f36d817d703ff4c3947b57ea267f0652bd13bcfb125443b61fe53", func := "timetable/timetablelaw22.SymmetrySwaps", spec := "symmetrySwaps", unfollowed := true, recurses := true, plainKeys := false, apart := false }
def SymmetrySwapsSaid : Prop := symmetrySwapsRow.holds Tryz.pinned (OpenSpec.ofChange symmetrySwapsSpec)

/-- ITS FALSE NEIGHBOUR: 'it returns false'. Refute it at one input. -/
def symmetrySwapsWrong : ChangeSpec := { name := "symmetrySwaps", fn := fun _ => fun
  | [d1, d2, d3] => { results := [.lit (.bool false)], args := [d1, d2, d3] }
  | _ => none }
def SymmetrySwapsWrongFalsely : Prop := symmetrySwapsRow.holds Tryz.pinned (OpenSpec.ofChange symmetrySwapsWrong)

/-- 'timetablelaw22.SymmetryCanonical': WHATEVER THE INPUT: true; the input reads as it did. -/
def symmetryCanonicalSpec : ChangeSpec := { name := "symmetryCanonical", fn := fun _ => fun
  | [d1, d2] => { results := [.lit (.bool true)], args := [d1, d2] }
  | _ => none }
def symmetryCanonicalRow : OpenClaim := { program := "ytihpjcmloecaaaagreat", sum := "d69277d2b61f36d817d703ff4c3947b57ea267f0652bd13bcfb125443b61fe53", func := "timetable/timetablelaw22.SymmetryCanonical", spec := "symmetryCanonical", unfollowed := true, recurses := true, plainKeys := false, apart := false }
def SymmetryCanonicalSaid : Prop := symmetryCanonicalRow.holds Tryz.pinned (OpenSpec.ofChange symmetryCanonicalSpec)

/-- ITS FALSE NEIGHBOUR: 'it returns false'. Refute it at one input. -/
def symmetryCanonicalWrong : ChangeSpec := { name := "symmetryCanonical", fn := fun _ => fun
  | [d1, d2] => { results := [.lit (.bool false)], args := [d1, d2] }
  | _ => none }
def SymmetryCanonicalWrongFalsely : Prop := symmetryCanonicalRow.holds Tryz.pinned (OpenSpec.ofChange symmetryCanonicalWrong)

/-- 'timetablelaw22.SymmetryBreaks': WHATEVER THE INPUT: true; the input reads as it did. -/
def symmetryBreaksSpec : ChangeSpec := { name := "symmetryBreaks", fn := fun _ => fun
  | [d] => { results := [.lit (.bool true)], args := [d] }
  | _ => none }
def symmetryBreaksRow : OpenClaim := { program := "ytihpjcmloecaaaagreat", sum := "d69277d2b61f36d817d703ff4c3947b57ea267f0652bd13bcfb125443b61fe53", func := "timetable/timetablelaw22.SymmetryBreaks", spec := "symmetryBreaks", unfollowed := true, recurses := true, plainKeys := false, apart := false }
def SymmetryBreaksSaid : Prop := symmetryBreaksRow.holds Tryz.pinned (OpenSpec.ofChange symmetryBreaksSpec)

/-- ITS FALSE NEIGHBOUR: 'it returns false'. Refute it at one input. -/
def symmetryBreaksWrong : ChangeSpec := { name := "symmetryBreaks", fn := fun _ => fun
  | [d] => { results := [.lit (.bool false)], args := [d] }
  | _ => none }
def SymmetryBreaksWrongFalsely : Prop := symmetryBreaksRow.holds Tryz.pinned (OpenSpec.ofChange symmetryBreaksWrong)

/-- 'timetablelaw22.SymmetryKeeps': WHATEVER THE INPUT: true; the input reads as it did. -/
def symmetryKeepsSpec : ChangeSpec := { name := "symmetryKeeps", fn := fun _ => fun
  | [d] => { results := [.lit (.bool true)], args := [d] }
  | _ => none }
def symmetryKeepsRow : OpenClaim := { program := "ytihpjcmloecaaaagreat", sum := "d69277d2b61f36d817d703ff4c3947b57ea267f0652bd13bcfb125443b61fe53", func := "timetable/timetablelaw22.SymmetryKeeps", spec := "symmetryKeeps", unfollowed := true, recurses := true, plainKeys := false, apart := false }
def SymmetryKeepsSaid : Prop := symmetryKeepsRow.holds Tryz.pinned (OpenSpec.ofChange symmetryKeepsSpec)

/-- ITS FALSE NEIGHBOUR: 'it returns false'. Refute it at one input. -/
def symmetryKeepsWrong : ChangeSpec := { name := "symmetryKeeps", fn := fun _ => fun
  | [d] => { results := [.lit (.bool false)], args := [d] }
  | _ => none }
def SymmetryKeepsWrongFalsely : Prop := symmetryKeepsRow.holds Tryz.pinned (OpenSpec.ofChange symmetryKeepsWrong)

/-- 'timetablelaw22.SymmetryCosts': WHATEVER THE INPUT: true; the input reads as it did. -/
def symmetryCostsSpec : ChangeSpec := { name := "symmetryCosts", fn := fun _ => fun
  | [d1, d2, d3] => { results := [.lit (.bool true)], args := [d1, d2, d3] }
  | _ => none }
def symmetryCostsRow : OpenClaim := { program := "ytihpjcmloecaaaagreat", sum := "d69277d2b61f36d817d703ff4c3947b57ea267f0652bd13bcfb125443b61fe53", func := "timetable/timetablelaw22.SymmetryCosts", spec := "symmetryCosts", unfollowed := true, recurses := true, plainKeys := false, apart := false }
def SymmetryCostsSaid : Prop := symmetryCostsRow.holds Tryz.pinned (OpenSpec.ofChange symmetryCostsSpec)

/-- ITS FALSE NEIGHBOUR: 'it returns false'. Refute it at one input. -/
def symmetryCostsWrong : ChangeSpec := { name := "symmetryCosts", fn := fun _ => fun
  | [d1, d2, d3] => { results := [.lit (.bool false)], args := [d1, d2, d3] }
  | _ => none }
def SymmetryCostsWrongFalsely : Prop := symmetryCostsRow.holds Tryz.pinned (OpenSpec.ofChange symmetryCostsWrong)

/-- 'timetablelaw22.SymmetrySame': WHATEVER THE INPUT: true; the input reads as it did. -/
def symmetrySameSpec : ChangeSpec := { name := "symmetrySame", fn := fun _ => fun
  | [d1, d2, d3] => { results := [.lit (.bool true)], args := [d1, d2, d3] }
  | _ => none }
def symmetrySameRow : OpenClaim := { program := "ytihpjcmloecaaaagreat", sum := "d69277d2b61f36d817d703ff4c3947b57ea267f0652bd13bcfb125443b61fe53", func := "timetable/timetablelaw22.SymmetrySame", spec := "symmetrySame", unfollowed := true, recurses := true, plainKeys := false, apart := false }
def SymmetrySameSaid : Prop := symmetrySameRow.holds Tryz.pinned (OpenSpec.ofChange symmetrySameSpec)

/-- ITS FALSE NEIGHBOUR: 'it returns false'. Refute it at one input. -/
def symmetrySameWrong : ChangeSpec := { name := "symmetrySame", fn := fun _ => fun
  | [d1, d2, d3] => { results := [.lit (.bool false)], args := [d1, d2, d3] }
  | _ => none }
def SymmetrySameWrongFalsely : Prop := symmetrySameRow.holds Tryz.pinned (OpenSpec.ofChange symmetrySameWrong)

/- THE SECOND FORM. 'bulk': how many values and letters a reading holds, each counted each time it is reached (what is shared counts as often as it is met; a slice's spare places count too). A statement '..UptoSaid' is the law's where the arguments, and the package variables that the reading takes, are together of bulk at most 1048576: NARROWER than '..Said'. Prove '..Said' where nothing that the law and all that it calls make is longer than what came in: it says more and counts as full. Else prove '..UptoSaid'. A law counts once. -/
mutual
def uptoBulk {H : Type} : DataW H → Nat
  | .lit (.string bytes) => bytes.length + 1
  | .lit _ => 1
  | .nil => 1
  | .ptr d => uptoBulk d + 1
  | .slice elems spare => uptoBulkAll elems + uptoBulkAll spare + 1
  | .agg parts => uptoBulkAll parts + 1
  | .iface _ d => uptoBulk d + 1
  | .map entries => uptoBulkEntries entries + 1
  | .held _ => 1
def uptoBulkAll {H : Type} : List (DataW H) → Nat
  | [] => 0
  | d :: r => uptoBulk d + uptoBulkAll r
def uptoBulkEntries {H : Type} : List (Lit × DataW H) → Nat
  | [] => 0
  | x :: r => uptoBulkEntry x + uptoBulkEntries r
def uptoBulkEntry {H : Type} : Lit × DataW H → Nat
  | (.string bytes, d) => bytes.length + uptoBulk d + 1
  | (_, d) => uptoBulk d + 1
 end
def uptoSmall : (H : Type) → List (DataW H) → Bool := fun _ ds => decide (uptoBulkAll ds ≤ 1048576)
def OpenSpec.upto (s : _root_.Go.ChangeSpec) : _root_.Go.OpenSpec := { _root_.Go.OpenSpec.ofChange s with cond := some uptoSmall }

/-- 'timetablelaw22.SymmetrySwaps', WHERE WHAT IT READS IS OF BULK AT MOST 1048576: true; the input reads as it did. -/
def symmetrySwapsUptoRow : OpenClaim := { program := "ytihpjcmloecaaaagreat", sum := "d69277d2b61f36d817d703ff4c3947b57ea267f0652bd13bcfb125443b61fe53", func := "timetable/timetablelaw22.SymmetrySwaps", spec := "symmetrySwaps", unfollowed := true, recurses := true, plainKeys := false, apart := false, narrowed := true }
def SymmetrySwapsUptoSaid : Prop := symmetrySwapsUptoRow.holds Tryz.pinned (OpenSpec.upto symmetrySwapsSpec)

/-- 'timetablelaw22.SymmetryCanonical', WHERE WHAT IT READS IS OF BULK AT MOST 1048576: true; the input reads as it did. -/
def symmetryCanonicalUptoRow : OpenClaim := { program := "ytihpjcmloecaaaagreat", sum := "d69277d2b61f36d817d703ff4c3947b57ea267f0652bd13bcfb125443b61fe53", func := "timetable/timetablelaw22.SymmetryCanonical", spec := "symmetryCanonical", unfollowed := true, recurses := true, plainKeys := false, apart := false, narrowed := true }
def SymmetryCanonicalUptoSaid : Prop := symmetryCanonicalUptoRow.holds Tryz.pinned (OpenSpec.upto symmetryCanonicalSpec)

/-- 'timetablelaw22.SymmetryBreaks', WHERE WHAT IT READS IS OF BULK AT MOST 1048576: true; the input reads as it did. -/
def symmetryBreaksUptoRow : OpenClaim := { program := "ytihpjcmloecaaaagreat", sum := "d69277d2b61f36d817d703ff4c3947b57ea267f0652bd13bcfb125443b61fe53", func := "timetable/timetablelaw22.SymmetryBreaks", spec := "symmetryBreaks", unfollowed := true, recurses := true, plainKeys := false, apart := false, narrowed := true }
def SymmetryBreaksUptoSaid : Prop := symmetryBreaksUptoRow.holds Tryz.pinned (OpenSpec.upto symmetryBreaksSpec)

/-- 'timetablelaw22.SymmetryKeeps', WHERE WHAT IT READS IS OF BULK AT MOST 1048576: true; the input reads as it did. -/
def symmetryKeepsUptoRow : OpenClaim := { program := "ytihpjcmloecaaaagreat", sum := "d69277d2b61f36d817d703ff4c3947b57ea267f0652bd13bcfb125443b61fe53", func := "timetable/timetablelaw22.SymmetryKeeps", spec := "symmetryKeeps", unfollowed := true, recurses := true, plainKeys := false, apart := false, narrowed := true }
def SymmetryKeepsUptoSaid : Prop := symmetryKeepsUptoRow.holds Tryz.pinned (OpenSpec.upto symmetryKeepsSpec)

/-- 'timetablelaw22.SymmetryCosts', WHERE WHAT IT READS IS OF BULK AT MOST 1048576: true; the input reads as it did. -/
def symmetryCostsUptoRow : OpenClaim := { program := "ytihpjcmloecaaaagreat", sum := "d69277d2b61f36d817d703ff4c3947b57ea267f0652bd13bcfb125443b61fe53", func := "timetable/timetablelaw22.SymmetryCosts", spec := "symmetryCosts", unfollowed := true, recurses := true, plainKeys := false, apart := false, narrowed := true }
def SymmetryCostsUptoSaid : Prop := symmetryCostsUptoRow.holds Tryz.pinned (OpenSpec.upto symmetryCostsSpec)

/-- 'timetablelaw22.SymmetrySame', WHERE WHAT IT READS IS OF BULK AT MOST 1048576: true; the input reads as it did. -/
def symmetrySameUptoRow : OpenClaim := { program := "ytihpjcmloecaaaagreat", sum := "d69277d2b61f36d817d703ff4c3947b57ea267f0652bd13bcfb125443b61fe53", func := "timetable/timetablelaw22.SymmetrySame", spec := "symmetrySame", unfollowed := true, recurses := true, plainKeys := false, apart := false, narrowed := true }
def SymmetrySameUptoSaid : Prop := symmetrySameUptoRow.holds Tryz.pinned (OpenSpec.upto symmetrySameSpec)

end Rows
end Go.Proofs.YtihpjcmloecaaaaGreat
