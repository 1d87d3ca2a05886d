/-
  Part 9 of the proof (D5, D6, D7): what later parts use. No conditions.
-/
import Derived.Test.YtpnghlibmpainaaGreatMC8

/-
  Odd rooms.
-/
namespace Go.Cw
section
variable {P : Program} {T : Tab} {n nh : Nat} {a b : Code} {Q : Exit → Slots → Heap → Prop} {Γ : Slots} {H : Heap}
end
end Go.Cw
namespace Go.Proofs.YtpnghlibmpainaaGreat.Cw
open Go.Cw Go.Proofs
set_option linter.unusedVariables false
set_option maxRecDepth 100000
set_option maxHeartbeats 1600000

def strRows : List (List PV) → Bool
  | [] => true
  | [.val (.string _)] :: l => strRows l
  | _ => false
end Go.Proofs.YtpnghlibmpainaaGreat.Cw

/-
  Odd examinations.
-/
namespace Go.Proofs.YtpnghlibmpainaaGreat.Cw
open Go.Cw Go.Proofs
set_option linter.unusedVariables false
set_option maxRecDepth 100000
set_option maxHeartbeats 1600000

def xb (r e s : AV) (g : Gaps) : Option AObj := some ⟨33, 8, false, .box [r, e, s, vint .i64 g.row, vint .i64 g.day, vint .i64 g.near, vint .i64 g.days, vint .i64 g.mixed]⟩
def eb (c l f s : AV) : Option AObj := some ⟨69, 4, false, .box [c, l, f, s]⟩
def e0b : Option AObj := eb (.pv (es ⟨#[90]⟩)) (vint .i64 1) (.pv (encStrs [])) (.pv (encStrs [⟨#[115]⟩]))

end Go.Proofs.YtpnghlibmpainaaGreat.Cw

/-
  Examinations of a law: some, short.
-/
namespace Go.Proofs.YtpnghlibmpainaaGreat.Cw
open Go.Cw Go.Proofs
set_option linter.unusedVariables false
set_option maxRecDepth 100000
set_option maxHeartbeats 1600000

def okE (e : Exam) : Bool := decide (e.studs.length ≤ 70) && decide (e.feats.length ≤ 20)
def shortB (x : Exams) : Bool := (x.exams.take 30).all okE && (decide (x.rooms.length ≤ 20) && decide (x.exams.length ≤ 30) && decide (x.sits.length ≤ 30))
end Go.Proofs.YtpnghlibmpainaaGreat.Cw
