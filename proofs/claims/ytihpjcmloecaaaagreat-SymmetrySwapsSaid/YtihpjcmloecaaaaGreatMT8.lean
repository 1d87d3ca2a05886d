/-
  The law SymmetrySwaps is true: for all arguments the call returns true and the arguments read as_ before. No conditions.
-/
import Derived.Test.YtihpjcmloecaaaaGreatRows
import Derived.WalkKit
import Derived.ProofKit
import Derived.OpenShut
import Derived.Test.YtihpjcmloecaaaaGreatMT7
namespace Go.Proofs.YtihpjcmloecaaaaGreat
open Go.ChangeShapes Go.WideShapes Go.ChangeAt Go.RowKit
open Go.Cw (ArgsOk vbool)
theorem symmetryswaps_own : ownKnob Tryz.prog.godebug = none := by kernel_rfl
theorem symmetryswaps_laid : laidOutB Tryz.prog = true := by kernel_rfl
theorem symmetryswaps_call (al : List Go.Cw.AV) (h : ArgsOk Cw.T Tryz.f3.params.toList al) : Go.Cw.ACall Tryz.prog 3 al [] (fun r _ => r = vbool true) := by
  rw [Tryz.params3] at h
  have h : ArgsOk Cw.T [22, 3, 3] al := h
  obtain ⟨v0, a0, rfl, h0⟩ := Cw.args_ints h
  obtain ⟨v1, a1, rfl, lo1, hi1, h1⟩ := Cw.args_int h0
  obtain ⟨v2, a2, rfl, lo2, hi2, h2⟩ := Cw.args_int h1
  obtain rfl := Go.Cw.args_end h2
  exact Go.Cw.ACall.mono (Cw.c_swaps Cw.awake_ok v0 v1 v2) fun r H1 e => e.2
set_option maxRecDepth 100000 in
theorem symmetryswaps_lifted (os : Os) (started : os.Started) (H : Type) (enc : TypeId × Value → H) :
    ReturnsInHanded {} Tryz.checked os 3 .any (Rows.symmetrySwapsSpec.pre6 enc Tryz.prog Tryz.f3 Rows.symmetrySwapsRow.domain false) (Rows.symmetrySwapsSpec.post enc Tryz.prog Tryz.f3 false true false false) := by
  refine returnsInHanded_of_change (C := Tryz.checked) symmetryswaps_own started (by kernel_rfl) Tryz.func3
    (ChangeSpec.witness6 (enc := enc) (C := Tryz.checked) false ⟨#[], #[.slice none 0 0, .int .i64 0, .int .i64 0], []⟩ 8 (by kernel_rfl) (by kernel_rfl) (by kernel_rfl) (by kernel_rfl)) ?_
  intro W base args ds gs before hval0 hW hcnd _
  exact Go.Cw.law_step (T := Cw.T) Cw.tok symmetryswaps_laid 12 rfl (by kernel_rfl) (by kernel_rfl) Tryz.underlying4
    (fun ds hd => by match ds, hd with | [d0, d1, d2], _ => exact ⟨rfl, rfl, rfl⟩)
    symmetryswaps_call hval0 hW (fun e he => by cases he)
theorem symmetryswaps_holds : Rows.SymmetrySwapsSaid :=
  OpenClaim.holds_of_wide 3 Tryz.f3 rfl rfl rfl rfl rfl rfl rfl ⟨rfl, rfl, rfl, rfl, rfl⟩ rfl rfl rfl rfl rfl (by kernel_rfl) Tryz.func3 (by kernel_rfl)
    (of_decide_eq_true (by kernel_rfl)) (by unfold Func.isWrapper; first | (rw [if_pos (by decide +kernel)]; kernel_rfl) | (rw [if_neg (by decide +kernel)]; exact ⟨rfl, rfl⟩))
    (fun os started H enc _ => symmetryswaps_lifted os started H enc)
end Go.Proofs.YtihpjcmloecaaaaGreat
