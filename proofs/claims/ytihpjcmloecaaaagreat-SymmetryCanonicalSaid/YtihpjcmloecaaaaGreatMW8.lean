/-
  The law SymmetryCanonical is true: for all arguments the call returns true and the arguments read as_ before. No conditions.
-/
import Derived.Test.YtihpjcmloecaaaaGreatRows
import Derived.WalkKit
import Derived.ProofKit
import Derived.OpenShut
import Derived.Test.YtihpjcmloecaaaaGreatMW7
namespace Go.Proofs.YtihpjcmloecaaaaGreat
open Go.ChangeShapes Go.WideShapes Go.ChangeAt Go.RowKit
open Go.Cw (ArgsOk vbool)
theorem symmetrycanonical_own : ownKnob Tryz.prog.godebug = none := by kernel_rfl
theorem symmetrycanonical_laid : laidOutB Tryz.prog = true := by kernel_rfl
theorem symmetrycanonical_call (al : List Go.Cw.AV) (h : ArgsOk Cw.T Tryz.f4.params.toList al) : Go.Cw.ACall Tryz.prog 4 al [] (fun r _ => r = vbool true) := by
  rw [Tryz.params4] at h
  have h : ArgsOk Cw.T [22, 22] al := h
  obtain ⟨v0, a0, rfl, h0⟩ := Cw.args_ints h
  obtain ⟨v1, a1, rfl, h1⟩ := Cw.args_ints h0
  obtain rfl := Go.Cw.args_end h1
  exact Go.Cw.ACall.mono (Cw.c_canons v0 v1) fun r H1 e => e.2
set_option maxRecDepth 100000 in
theorem symmetrycanonical_lifted (os : Os) (started : os.Started) (H : Type) (enc : TypeId × Value → H) :
    ReturnsInHanded {} Tryz.checked os 4 .any (Rows.symmetryCanonicalSpec.pre6 enc Tryz.prog Tryz.f4 Rows.symmetryCanonicalRow.domain false) (Rows.symmetryCanonicalSpec.post enc Tryz.prog Tryz.f4 false true false false) := by
  refine returnsInHanded_of_change (C := Tryz.checked) symmetrycanonical_own started (by kernel_rfl) Tryz.func4
    (ChangeSpec.witness6 (enc := enc) (C := Tryz.checked) false ⟨#[], #[.slice none 0 0, .slice none 0 0], []⟩ 8 (by kernel_rfl) (by kernel_rfl) (by kernel_rfl) (by kernel_rfl)) ?_
  intro W base args ds gs before hval0 hW hcnd _
  exact Go.Cw.law_step (T := Cw.T) Cw.tok symmetrycanonical_laid 12 rfl (by kernel_rfl) (by kernel_rfl) Tryz.underlying4
    (fun ds hd => by match ds, hd with | [d0, d1], _ => exact ⟨rfl, rfl, rfl⟩)
    symmetrycanonical_call hval0 hW (fun e he => by cases he)
theorem symmetrycanonical_holds : Rows.SymmetryCanonicalSaid :=
  OpenClaim.holds_of_wide 4 Tryz.f4 rfl rfl rfl rfl rfl rfl rfl ⟨rfl, rfl, rfl, rfl, rfl⟩ rfl rfl rfl rfl rfl (by kernel_rfl) Tryz.func4 (by kernel_rfl)
    (of_decide_eq_true (by kernel_rfl)) (by unfold Func.isWrapper; first | (rw [if_pos (by decide +kernel)]; kernel_rfl) | (rw [if_neg (by decide +kernel)]; exact ⟨rfl, rfl⟩))
    (fun os started H enc _ => symmetrycanonical_lifted os started H enc)
end Go.Proofs.YtihpjcmloecaaaaGreat
