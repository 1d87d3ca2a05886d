/-
  Part 10 of the proof (FJ): what later parts use. No conditions.
-/
import Derived.Test.YtbcacaodfpgflaaGreatDoorRows
import Derived.Test.YtbcacaodfpgflaaGreatDoorTie
import Derived.Test.YtbcacaodfpgflaaGreatDoorCards
import Derived.WalkKit
import Derived.ProofKit
import Derived.LaidMore
import Derived.OpenShut
import Derived.Stop.Joined
import Derived.SevenTiedAt
import Derived.Test.YtbcacaodfpgflaaGreatDoorYG8

/-
  The law ChangesJoins is true: for all arguments the call returns true and the arguments read as_ before; and its card. No conditions.
-/
namespace Go.Proofs.YtbcacaodfpgflaaGreatDoor
open Go.ChangeShapes Go.WideShapes Go.ChangeAt Go.RowKit
open Go.Cw (ArgsOk vbool)

theorem changesjoins_own : ownKnob Tryz.prog.godebug = none := by kernel_rfl
theorem changesjoins_laid : laidOutB Tryz.prog = true := by kernel_rfl
theorem changesjoins_met (os : Os) (args : Array Value) : laidMetH Tryz.prog laid2 ((World.doorLaid Tryz.prog 400 os).forCall (fun _ _ => 0) ⟨#[], args, []⟩).memory :=
  laidMetH_of_parts3 (fuel := 8) (laidMet_of_run' 8 (by kernel_rfl) (by kernel_rfl)) (by kernel_rfl) (by kernel_rfl)
theorem changesjoins_call (al : List Go.Cw.AV) (h : Go.Cw.ArgsN Cw.T (Go.Cw.wN Tryz.prog) Tryz.f4.params.toList al) : Go.Cw.ACall Tryz.prog 4 al [] (fun r _ => r = vbool true) := by
  rw [Tryz.params4] at h
  have h : Go.Cw.ArgsN Cw.T (Go.Cw.wN Tryz.prog) [23, 23, 24] al := h
  obtain ⟨v0, a0, rfl, ⟨lo0, hi0⟩, h0⟩ := Cw.args_chgs h
  obtain ⟨v1, a1, rfl, ⟨lo1, hi1⟩, h1⟩ := Cw.args_chgs h0
  obtain ⟨v2, a2, rfl, h2⟩ := Cw.args_ints h1
  obtain rfl := Cw.args_nil h2
  exact Go.Cw.ACall.mono (Cw.c_joins v0 v1 v2 (Cw.chgsL_w hi0) (Cw.chgsL_w hi1) (Nat.le_trans lo0 Cw.chg_w) (Nat.le_trans lo1 Cw.chg_w)) fun r H1 e => e.2

set_option maxRecDepth 100000 in
theorem changesjoins_lifted (os : Os) (started : os.Started) (H : Type) (enc : TypeId × Value → H) :
    ReturnsInHanded {} Tryz.checked os 4 .any (fun w args => (Rows.changesJoinsSpec.pre enc Tryz.prog Tryz.f4 [] false w args ∧ laidMetH Tryz.prog laid2 w) ∧ sizedMet enc Tryz.prog Tryz.f4 (OpenSpec.ofChange Rows.changesJoinsSpec) false w args)
      (Rows.changesJoinsSpec.post enc Tryz.prog Tryz.f4 false true false false) := by
  refine returnsInHanded_of_change_and (C := Tryz.checked) (X := fun w _ => laidMetH Tryz.prog laid2 w) (fun _ _ _ hh h => h.of_heap hh) changesjoins_own started (by kernel_rfl) Tryz.func4
    (ChangeSpec.witness_shaped (enc := enc) (C := Tryz.checked) (os := os) (X := fun w _ => laidMetH Tryz.prog laid2 w) false (World.doorLaid Tryz.prog 400 os) #[.slice none 0 0, .slice none 0 0, .slice none 0 0] 8 rfl (World.shaped_of_RefB (by kernel_rfl) (by kernel_rfl)) (by kernel_rfl) (by kernel_rfl) (by kernel_rfl) (changesjoins_met os _)) ?_
  intro W base args ds gs before hval0 hW _ hwt hL _
  exact Go.Cw.law_stepN (T := Cw.T) Cw.tok changesjoins_laid Go.Cw.bnd_w 8 rfl (by kernel_rfl) (by kernel_rfl) Tryz.underlying4
    (fun ds hd => by match ds, hd with | [d0, d1, d2], _ => exact ⟨rfl, rfl, rfl⟩)
    (Go.Cw.within_of hwt) changesjoins_call hval0 hW (gl_of hL)

theorem changesjoins_holds : Rows.ChangesJoinsSaid :=
  OpenClaim.holds_of_wide 4 Tryz.f4 rfl rfl rfl rfl rfl rfl rfl ⟨rfl, rfl, rfl, rfl, rfl⟩ rfl rfl rfl rfl rfl (by kernel_rfl) Tryz.func4 (by kernel_rfl)
    (of_decide_eq_true (by kernel_rfl)) (by unfold Func.isWrapper; first | (rw [if_pos (by decide +kernel)]; kernel_rfl) | (rw [if_neg (by decide +kernel)]; exact ⟨rfl, rfl⟩))
    (fun os started H enc _ => changesjoins_lifted os started H enc)

/-- The card. -/
theorem changesjoins_card : Rows.ChangesJoinsCardSaid :=
  Claim7.holds_tied_plain_at .later [] [.data, .data] true (true, "54cc5e2dc4f6f53f2d2d829b342c11811104b3e3c3a13f9fbe145c11529fb6de") false
    changesjoins_holds (fun _ h => by cases h) (by kernel_rfl) (fun _ h => by cases h) changesJoins_row_tie rfl ⟨rfl, rfl⟩ (by kernel_rfl) rfl
    (fun f fn hf hfn => by
      obtain rfl : f = 4 := Option.some.inj ((show Tryz.prog.funcNamed "timetable/timetablelaw34.ChangesJoins" = some 4 by kernel_rfl).symm.trans hf) |>.symm
      obtain rfl : fn = Tryz.f4 := (Option.some.inj (Tryz.func4.symm.trans hfn)).symm
      exact ⟨by kernel_rfl, fun j t ht => by
        rw [Tryz.params4] at ht
        have hm : t ∈ [23, 23, 24] := by simpa using Array.mem_of_getElem? ht
        have hall : ([23, 23, 24].all fun u => !Tryz.prog.wantsStandIn u) = true := by kernel_rfl
        exact (show Tryz.prog.wantsStandIn t = false by simpa using List.all_eq_true.1 hall t hm)⟩)
    (by kernel_rfl)
end Go.Proofs.YtbcacaodfpgflaaGreatDoor
