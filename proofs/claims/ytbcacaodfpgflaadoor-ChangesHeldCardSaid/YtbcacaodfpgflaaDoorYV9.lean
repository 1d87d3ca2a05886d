/-
  Part 9 of the proof (FH): what later parts use. No conditions.
-/
import Derived.Test.YtbcacaodfpgflaaDoorRows
import Derived.Test.YtbcacaodfpgflaaDoorTie
import Derived.Test.YtbcacaodfpgflaaDoorCards
import Derived.WalkKit
import Derived.ProofKit
import Derived.LaidMore
import Derived.OpenShut
import Derived.Stop.Joined
import Derived.SevenTiedAt
import Derived.Test.YtbcacaodfpgflaaDoorYV7

/-
  The law ChangesHeld is true: for all arguments the call returns true and the arguments read as_ before; and its card. No conditions.
-/
namespace Go.Proofs.YtbcacaodfpgflaaDoor
open Go.ChangeShapes Go.WideShapes Go.ChangeAt Go.RowKit
open Go.Cw (ArgsOk vbool)

theorem changesheld_own : ownKnob Tryd.prog.godebug = none := by kernel_rfl
theorem changesheld_laid : laidOutB Tryd.prog = true := by kernel_rfl
theorem changesheld_met (os : Os) (args : Array Value) : laidMetH Tryd.prog laid2 ((World.doorLaid Tryd.prog 400 os).forCall (fun _ _ => 0) ⟨#[], args, []⟩).memory :=
  laidMetH_of_parts3 (fuel := 8) (laidMet_of_run' 8 (by kernel_rfl) (by kernel_rfl)) (by kernel_rfl) (by kernel_rfl)
theorem changesheld_call (al : List Go.Cw.AV) (h : ArgsOk Cw.T Tryd.f5.params.toList al) : Go.Cw.ACall Tryd.prog 5 al [] (fun r _ => r = vbool true) := by
  rw [Tryd.params5] at h
  have h : ArgsOk Cw.T [23, 5] al := h
  obtain ⟨v0, a0, rfl, h0⟩ := Cw.args_ints h
  obtain ⟨v1, a1, rfl, lo1, hi1, h1⟩ := Cw.args_u8 h0
  obtain rfl := Cw.args_nil h1
  exact Go.Cw.ACall.mono (Cw.c_helds v0 v1 ⟨lo1, hi1⟩) fun r H1 e => e.2

set_option maxRecDepth 100000 in
theorem changesheld_lifted (os : Os) (started : os.Started) (H : Type) (enc : TypeId × Value → H) :
    ReturnsInHanded {} Tryd.checked os 5 .any (fun w args => (Rows.changesHeldSpec.pre enc Tryd.prog Tryd.f5 [] false w args ∧ laidMetH Tryd.prog laid2 w) ∧ sizedMet enc Tryd.prog Tryd.f5 (OpenSpec.ofChange Rows.changesHeldSpec) false w args)
      (Rows.changesHeldSpec.post enc Tryd.prog Tryd.f5 false true false false) := by
  refine returnsInHanded_of_change_and (C := Tryd.checked) (X := fun w _ => laidMetH Tryd.prog laid2 w) (fun _ _ _ hh h => h.of_heap hh) changesheld_own started (by kernel_rfl) Tryd.func5
    (ChangeSpec.witness_shaped (enc := enc) (C := Tryd.checked) (os := os) (X := fun w _ => laidMetH Tryd.prog laid2 w) false (World.doorLaid Tryd.prog 400 os) #[.slice none 0 0, .int .u8 0] 8 rfl (World.shaped_of_RefB (by kernel_rfl) (by kernel_rfl)) (by kernel_rfl) (by kernel_rfl) (by kernel_rfl) (changesheld_met os _)) ?_
  intro W base args ds gs before hval0 hW _ _ hL _
  exact Go.Cw.law_step (T := Cw.T) Cw.tok changesheld_laid 8 rfl (by kernel_rfl) (by kernel_rfl) Tryd.underlying4
    (fun ds hd => by match ds, hd with | [d0, d1], _ => exact ⟨rfl, rfl, rfl⟩)
    changesheld_call hval0 hW (gl_of hL)

theorem changesheld_holds : Rows.ChangesHeldSaid :=
  OpenClaim.holds_of_wide 5 Tryd.f5 rfl rfl rfl rfl rfl rfl rfl ⟨rfl, rfl, rfl, rfl, rfl⟩ rfl rfl rfl rfl rfl (by kernel_rfl) Tryd.func5 (by kernel_rfl)
    (of_decide_eq_true (by kernel_rfl)) (by unfold Func.isWrapper; first | (rw [if_pos (by decide +kernel)]; kernel_rfl) | (rw [if_neg (by decide +kernel)]; exact ⟨rfl, rfl⟩))
    (fun os started H enc _ => changesheld_lifted os started H enc)

/-- The card. -/
theorem changesheld_card : Rows.ChangesHeldCardSaid :=
  Claim7.holds_tied_plain_at .later [] [.data, .data] true (true, "73331bd0424a213e335bc6e14254896e1fb8653df1c2cfa8eb9d5d9327ec61f8") false
    changesheld_holds (fun _ h => by cases h) (by kernel_rfl) (fun _ h => by cases h) changesHeld_row_tie rfl ⟨rfl, rfl⟩ (by kernel_rfl) rfl
    (fun f fn hf hfn => by
      obtain rfl : f = 5 := Option.some.inj ((show Tryd.prog.funcNamed "timetable/timetablelaw34.ChangesHeld" = some 5 by kernel_rfl).symm.trans hf) |>.symm
      obtain rfl : fn = Tryd.f5 := (Option.some.inj (Tryd.func5.symm.trans hfn)).symm
      exact ⟨by kernel_rfl, fun j t ht => by
        rw [Tryd.params5] at ht
        have hm : t ∈ [23, 5] := by simpa using Array.mem_of_getElem? ht
        have hall : ([23, 5].all fun u => !Tryd.prog.wantsStandIn u) = true := by kernel_rfl
        exact (show Tryd.prog.wantsStandIn t = false by simpa using List.all_eq_true.1 hall t hm)⟩)
    (by kernel_rfl)
end Go.Proofs.YtbcacaodfpgflaaDoor
