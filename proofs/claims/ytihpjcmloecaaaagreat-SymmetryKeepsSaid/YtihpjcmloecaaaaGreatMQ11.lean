/-
  The law SymmetryKeeps is true: for all arguments the call returns true and the arguments read as_ before. No conditions.
-/
import Derived.Test.YtihpjcmloecaaaaGreatRows
import Derived.WalkKit
import Derived.ProofKit
import Derived.OpenShut
import Derived.Test.YtihpjcmloecaaaaGreatMQ10
namespace Go.Proofs.YtihpjcmloecaaaaGreat
open Go.ChangeShapes Go.WideShapes Go.ChangeAt Go.RowKit
open Go.Cw (ArgsOk vbool)
theorem symmetrykeeps_own : ownKnob Tryz.prog.godebug = none := by kernel_rfl
theorem symmetrykeeps_laid : laidOutB Tryz.prog = true := by kernel_rfl
theorem symmetrykeeps_call (al : List Go.Cw.AV) (h : ArgsOk Cw.T Tryz.f6.params.toList al) : Go.Cw.ACall Tryz.prog 6 al [] (fun r _ => r = vbool true) := by
  rw [Tryz.params6] at h
  have h : ArgsOk Cw.T [22] al := h
  obtain ⟨v0, a0, rfl, h0⟩ := Cw.args_ints h
  obtain rfl := Go.Cw.args_end h0
  exact Go.Cw.ACall.mono (Cw.c_keeps v0) fun r H1 e => e.2
set_option maxRecDepth 100000 in
theorem symmetrykeeps_lifted (os : Os) (started : os.Started) (H : Type) (enc : TypeId × Value → H) :
    ReturnsInHanded {} Tryz.checked os 6 .any (Rows.symmetryKeepsSpec.pre6 enc Tryz.prog Tryz.f6 Rows.symmetryKeepsRow.domain false) (Rows.symmetryKeepsSpec.post enc Tryz.prog Tryz.f6 false true false false) := by
  refine returnsInHanded_of_change (C := Tryz.checked) symmetrykeeps_own started (by kernel_rfl) Tryz.func6
    (ChangeSpec.witness6 (enc := enc) (C := Tryz.checked) false ⟨#[], #[.slice none 0 0], []⟩ 8 (by kernel_rfl) (by kernel_rfl) (by kernel_rfl) (by kernel_rfl)) ?_
  intro W base args ds gs before hval0 hW hcnd _
  exact Go.Cw.law_step (T := Cw.T) Cw.tok symmetrykeeps_laid 12 rfl (by kernel_rfl) (by kernel_rfl) Tryz.underlying4
    (fun ds hd => by match ds, hd with | [d0], _ => exact ⟨rfl, rfl, rfl⟩)
    symmetrykeeps_call hval0 hW (fun e he => by cases he)
theorem symmetrykeeps_holds : Rows.SymmetryKeepsSaid :=
  OpenClaim.holds_of_wide 6 Tryz.f6 rfl rfl rfl rfl rfl rfl rfl ⟨rfl, rfl, rfl, rfl, rfl⟩ rfl rfl rfl rfl rfl (by kernel_rfl) Tryz.func6 (by kernel_rfl)
    (of_decide_eq_true (by kernel_rfl)) (by unfold Func.isWrapper; first | (rw [if_pos (by decide +kernel)]; kernel_rfl) | (rw [if_neg (by decide +kernel)]; exact ⟨rfl, rfl⟩))
    (fun os started H enc _ => symmetrykeeps_lifted os started H enc)
end Go.Proofs.YtihpjcmloecaaaaGreat
