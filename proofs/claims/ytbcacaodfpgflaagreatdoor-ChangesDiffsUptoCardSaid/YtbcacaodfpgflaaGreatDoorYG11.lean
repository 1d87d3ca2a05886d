/-
  Part 11 of the proof (FI): what later parts use. No conditions.
-/
import Derived.Test.YtbcacaodfpgflaaGreatDoorRows
import Derived.Test.YtbcacaodfpgflaaGreatDoorTie
import Derived.Test.YtbcacaodfpgflaaGreatDoorCards
import Derived.WalkKit
import Derived.ProofKit
import Derived.LaidMore
import Derived.OpenShut
import Derived.Deep.DeepHandedRow
import Derived.Deep.DeepWitnessRowRef
import Derived.Stop.Joined
import Derived.SevenTiedAt
import Derived.Test.YtbcacaodfpgflaaGreatDoorYG8

/-
  The law ChangesDiffs is true: for all arguments the call returns true and the arguments read as_ before; and its card. No conditions.
-/
namespace Go.Proofs.YtbcacaodfpgflaaGreatDoor
open Go.ChangeShapes Go.WideShapes Go.ChangeAt Go.RowKit
open Go.Cw (ArgsOk vbool)

theorem changesdiffs_own : ownKnob Tryz.prog.godebug = none := by kernel_rfl
theorem changesdiffs_laid : laidOutB Tryz.prog = true := by kernel_rfl
theorem changesdiffs_met (os : Os) (args : Array Value) : laidMetH Tryz.prog laid2 ((World.doorLaid Tryz.prog 400 os).forCall (fun _ _ => 0) ⟨#[], args, []⟩).memory :=
  laidMetH_of_parts3 (fuel := 8) (laidMet_of_run' 8 (by kernel_rfl) (by kernel_rfl)) (by kernel_rfl) (by kernel_rfl)
theorem changesdiffs_call (al : List Go.Cw.AV) (h : Go.Cw.ArgsN Cw.T Cw.upN Tryz.f3.params.toList al) : Go.Cw.ACall Tryz.prog 3 al [] (fun r _ => r = vbool true) := by
  rw [Tryz.params3] at h
  have h : Go.Cw.ArgsN Cw.T Cw.upN [22, 23, 24, 3] al := h
  obtain ⟨v0, a0, rfl, lo0, h0⟩ := Cw.args_sess h
  obtain ⟨v1, a1, rfl, ⟨lo1, hi1⟩, h1⟩ := Cw.args_chgs h0
  obtain ⟨v2, a2, rfl, h2⟩ := Cw.args_ints h1
  obtain ⟨v3, a3, rfl, lo3, hi3, h3⟩ := Cw.args_int h2
  obtain rfl := Cw.args_nil h3
  exact Go.Cw.ACall.mono (Cw.c_diffs v0 v1 v2 v3 (Nat.le_trans lo0 (by decide)) (Nat.le_trans lo1 (by decide)) (fun x hx => ⟨Nat.le_trans (hi1 x hx).1 (by decide), Nat.le_trans (hi1 x hx).2 (by decide)⟩)) fun r H1 e => e.2

theorem changesdiffs_reads (os : Os) {H : Type} (enc : TypeId × Value → H) : ∃ places, DataW.whole enc Tryz.prog (((World.doorLaid Tryz.prog 400 os).forCall (fun _ _ => 0) ⟨#[], #[.slice none 0 0, .slice none 0 0, .slice none 0 0, .int .i64 0], []⟩).memory) Tryz.f3.params.toList Rows.changesDiffsSpec.vars false (#[.slice none 0 0, .slice none 0 0, .slice none 0 0, .int .i64 0] : Array Value).toList 8 = some ([.nil, .nil, .nil, .lit (.int .i64 0)], [], places) := ⟨[], by kernel_rfl⟩
set_option maxRecDepth 100000 in
theorem changesdiffs_lifted (os : Os) (started : os.Started) (H : Type) (enc : TypeId × Value → H) (F : Stop.Interp) :
    ReturnsInHanded {} Tryz.checked os 3 .any ((Rows.OpenSpec.upto Rows.changesDiffsSpec).preRow enc Tryz.prog Tryz.f3 Rows.changesDiffsUptoRow.domain false Rows.changesDiffsUptoRow.laid) (((Rows.OpenSpec.upto Rows.changesDiffsSpec).at F).post enc Tryz.prog Tryz.f3 false true false false) := by
  obtain ⟨places, hx⟩ := changesdiffs_reads os enc
  refine returnsInHanded_of_row (C := Tryz.checked) (s := Rows.OpenSpec.upto Rows.changesDiffsSpec) changesdiffs_own started (by kernel_rfl) Tryz.func3
    (witness_row_atRef (enc := enc) (C := Tryz.checked) false (World.doorLaid Tryz.prog 400 os) #[.slice none 0 0, .slice none 0 0, .slice none 0 0, .int .i64 0] rfl (by kernel_rfl) (by kernel_rfl) (by kernel_rfl)
      (OpenSpec.preRow_of_cond 8 hx (by kernel_rfl) (fun k hk => by cases hk; kernel_rfl) (by kernel_rfl) (changesdiffs_met os _))) ?_
  intro W base args ds gs before hval0 hW _ hcond _ hL _ _
  exact Go.Cw.law_stepN (T := Cw.T) (s := Rows.changesDiffsSpec) Cw.tok changesdiffs_laid Cw.bnd_up 8 rfl (by kernel_rfl) (by kernel_rfl) Tryz.underlying4
    (fun ds hd => by match ds, hd with | [d0, d1, d2, d3], _ => exact ⟨rfl, rfl, rfl⟩)
    (Cw.up_of (hcond _ rfl)) changesdiffs_call hval0 hW (gl_of hL)

theorem changesdiffs_holds : Rows.ChangesDiffsUptoSaid :=
  OpenClaim.holds_of_cond 3 Tryz.f3 rfl rfl rfl rfl rfl rfl rfl ⟨rfl, rfl, rfl, rfl, rfl⟩ rfl rfl rfl rfl rfl (by kernel_rfl) Tryz.func3 (by kernel_rfl)
    (of_decide_eq_true (by kernel_rfl)) (by unfold Func.isWrapper; first | (rw [if_pos (by decide +kernel)]; kernel_rfl) | (rw [if_neg (by decide +kernel)]; exact ⟨rfl, rfl⟩))
    (fun os started H enc _ F => by rw [OpenClaim.pre_eq_preRow]; exact changesdiffs_lifted os started H enc F)

/-- The card. -/
theorem changesdiffs_card : Rows.ChangesDiffsUptoCardSaid :=
  Claim7.holds_tied_plain_at .later [] [.data, .data] true (true, "54cc5e2dc4f6f53f2d2d829b342c11811104b3e3c3a13f9fbe145c11529fb6de") false
    changesdiffs_holds (fun _ h => by cases h) (by kernel_rfl) (fun _ h => by cases h) changesDiffsUpto_row_tie rfl ⟨rfl, rfl⟩ (by kernel_rfl) rfl
    (fun f fn hf hfn => by
      obtain rfl : f = 3 := Option.some.inj ((show Tryz.prog.funcNamed "timetable/timetablelaw34.ChangesDiffs" = some 3 by kernel_rfl).symm.trans hf) |>.symm
      obtain rfl : fn = Tryz.f3 := (Option.some.inj (Tryz.func3.symm.trans hfn)).symm
      exact ⟨by kernel_rfl, fun j t ht => by
        rw [Tryz.params3] at ht
        have hm : t ∈ [22, 23, 24, 3] := by simpa using Array.mem_of_getElem? ht
        have hall : ([22, 23, 24, 3].all fun u => !Tryz.prog.wantsStandIn u) = true := by kernel_rfl
        exact (show Tryz.prog.wantsStandIn t = false by simpa using List.all_eq_true.1 hall t hm)⟩)
    (by kernel_rfl)
end Go.Proofs.YtbcacaodfpgflaaGreatDoor
