/-
  Part 4 of the proof (CwTF): what later parts use. No conditions.
-/
import Derived.Test.YtkbaecjnhmbeeaaGreatMG3
/-
  Rows and slices of which only the kind is known: what a call hands back is some data of a type.
-/
namespace Go.Cw
set_option linter.unusedVariables false
section
variable {α : Type} {f : α → List PV} {q : α → Prop} {rows rows2 : List (List PV)} {r : List PV} {z n : Nat} {p : PV}
def RowOf (f : α → List PV) (q : α → Prop) (r : List PV) : Prop := ∃ x, q x ∧ PLeL r (f x)
def RowsOf (f : α → List PV) (q : α → Prop) (rows : List (List PV)) : Prop := ∃ l : List α, (∀ x ∈ l, q x) ∧ PLeLL rows (l.map f)
def SlOf (z : Nat) (f : α → List PV) (q : α → Prop) (n : Nat) (p : PV) : Prop := ∃ l : List α, l.length ≤ n ∧ (∀ x ∈ l, q x) ∧ PLe p (.sl z (l.map f))
end
theorem ALe.pvs : ∀ {l m : List PV}, PLeL l m → ALeL (pvs l) (pvs m)
  | [], [], _ => trivial
  | x :: l, y :: m, h => ⟨ALe.pv h.1, ALe.pvs h.2⟩
  | [], _ :: _, h => h.elim
  | _ :: _, [], h => h.elim
def findM : Heap → Nat → Option Nat
  | [], _ => none
  | o :: l, i => match findM l (i + 1) with
    | some j => some j
    | none => match o with
      | some ⟨_, _, _, .m _⟩ => some i
      | _ => none
def notIn (i : Nat) (l : List Nat) : Bool := l.all fun j => !Nat.beq i j
def liveL (H : Heap) (l : List Nat) : Bool := l.all fun i => match H[i]? with
  | some (some _) => true
  | _ => false
section
variable {n nh : Nat} {Γ : Slots} {H : Heap} {i ty z : Nat} {fz : Bool} {xs : List (List PV)} {r0 : List AV} {p0 : List PV}
variable {P : Program} {T : Tab} {Q : Exit → Slots → Heap → Prop}
end
end Go.Cw
