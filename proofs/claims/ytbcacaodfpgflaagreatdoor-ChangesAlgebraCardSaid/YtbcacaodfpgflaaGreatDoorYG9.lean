/-
  Part 9 of the proof (FA): what later parts use. No conditions.
-/
import Derived.Test.YtbcacaodfpgflaaGreatDoorRows
import Derived.Test.YtbcacaodfpgflaaGreatDoorTie
import Derived.Test.YtbcacaodfpgflaaGreatDoorCards
import Derived.WalkKit
import Derived.ProofKit
import Derived.LaidMore
import Derived.OpenShut
import Derived.Stop.Joined
import Derived.SevenTiedAt
import Derived.Test.YtbcacaodfpgflaaGreatDoorYG8

/-
  The law ChangesAlgebra is true: for all arguments the call returns true and the arguments read as_ before; and its card. No conditions.
-/
namespace Go.Proofs.YtbcacaodfpgflaaGreatDoor
open Go.ChangeShapes Go.WideShapes Go.ChangeAt Go.RowKit
open Go.Cw (ArgsOk vbool)

theorem changesalgebra_own : ownKnob Tryz.prog.godebug = none := by kernel_rfl
theorem changesalgebra_laid : laidOutB Tryz.prog = true := by kernel_rfl
theorem changesalgebra_met (os : Os) (args : Array Value) : laidMetH Tryz.prog laid2 ((World.doorLaid Tryz.prog 400 os).forCall (fun _ _ => 0) ⟨#[], args, []⟩).memory :=
  laidMetH_of_parts3 (fuel := 8) (laidMet_of_run' 8 (by kernel_rfl) (by kernel_rfl)) (by kernel_rfl) (by kernel_rfl)
theorem changesalgebra_call (al : List Go.Cw.AV) (h : ArgsOk Cw.T Tryz.f5.params.toList al) : Go.Cw.ACall Tryz.prog 5 al [] (fun r _ => r = vbool true) := by
  rw [Tryz.params5] at h
  have h : ArgsOk Cw.T [24] al := h
  obtain ⟨v0, a0, rfl, h0⟩ := Cw.args_ints h
  obtain rfl := Cw.args_nil h0
  exact Go.Cw.ACall.mono (Cw.c_algebra v0) fun r H1 e => e.2

set_option maxRecDepth 100000 in
theorem changesalgebra_lifted (os : Os) (started : os.Started) (H : Type) (enc : TypeId × Value → H) :
    ReturnsInHanded {} Tryz.checked os 5 .any (fun w args => (Rows.changesAlgebraSpec.pre enc Tryz.prog Tryz.f5 [] false w args ∧ laidMetH Tryz.prog laid2 w) ∧ sizedMet enc Tryz.prog Tryz.f5 (OpenSpec.ofChange Rows.changesAlgebraSpec) false w args)
      (Rows.changesAlgebraSpec.post enc Tryz.prog Tryz.f5 false true false false) := by
  refine returnsInHanded_of_change_and (C := Tryz.checked) (X := fun w _ => laidMetH Tryz.prog laid2 w) (fun _ _ _ hh h => h.of_heap hh) changesalgebra_own started (by kernel_rfl) Tryz.func5
    (ChangeSpec.witness_shaped (enc := enc) (C := Tryz.checked) (os := os) (X := fun w _ => laidMetH Tryz.prog laid2 w) false (World.doorLaid Tryz.prog 400 os) #[.slice none 0 0] 8 rfl (World.shaped_of_RefB (by kernel_rfl) (by kernel_rfl)) (by kernel_rfl) (by kernel_rfl) (by kernel_rfl) (changesalgebra_met os _)) ?_
  intro W base args ds gs before hval0 hW _ _ hL _
  exact Go.Cw.law_step (T := Cw.T) Cw.tok changesalgebra_laid 8 rfl (by kernel_rfl) (by kernel_rfl) Tryz.underlying4
    (fun ds hd => by match ds, hd with | [d0], _ => exact ⟨rfl, rfl, rfl⟩)
    changesalgebra_call hval0 hW (gl_of hL)

theorem changesalgebra_holds : Rows.ChangesAlgebraSaid :=
  OpenClaim.holds_of_wide 5 Tryz.f5 rfl rfl rfl rfl rfl rfl rfl ⟨rfl, rfl, rfl, rfl, rfl⟩ rfl rfl rfl rfl rfl (by kernel_rfl) Tryz.func5 (by kernel_rfl)
    (of_decide_eq_true (by kernel_rfl)) (by unfold Func.isWrapper; first | (rw [if_pos (by decide +kernel)]; kernel_rfl) | (rw [if_neg (by decide +kernel)]; exact ⟨rfl, rfl⟩))
    (fun os started H enc _ => changesalgebra_lifted os started H enc)

/-- The card. -/
theorem changesalgebra_card : Rows.ChangesAlgebraCardSaid :=
  Claim7.holds_tied_plain_at .later [] [.data, .data] true (true, "54cc5e2dc4f6f53f2d2d829b342c11811104b3e3c3a13f9fbe145c11529fb6de") false
    changesalgebra_holds (fun _ h => by cases h) (by kernel_rfl) (fun _ h => by cases h) changesAlgebra_row_tie rfl ⟨rfl, rfl⟩ (by kernel_rfl) rfl
    (fun f fn hf hfn => by
      obtain rfl : f = 5 := Option.some.inj ((show Tryz.prog.funcNamed "timetable/timetablelaw34.ChangesAlgebra" = some 5 by kernel_rfl).symm.trans hf) |>.symm
      obtain rfl : fn = Tryz.f5 := (Option.some.inj (Tryz.func5.symm.trans hfn)).symm
      exact ⟨by kernel_rfl, fun j t ht => by
        rw [Tryz.params5] at ht
        have hm : t ∈ [24] := by simpa using Array.mem_of_getElem? ht
        have hall : ([24].all fun u => !Tryz.prog.wantsStandIn u) = true := by kernel_rfl
        exact (show Tryz.prog.wantsStandIn t = false by simpa using List.all_eq_true.1 hall t hm)⟩)
    (by kernel_rfl)
end Go.Proofs.YtbcacaodfpgflaaGreatDoor
