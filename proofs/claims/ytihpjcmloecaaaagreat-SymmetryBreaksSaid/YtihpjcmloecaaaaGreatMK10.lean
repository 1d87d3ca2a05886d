/-
  The law SymmetryBreaks is true: for all arguments the call returns true and the arguments read as_ before. No conditions.
-/
import Derived.Test.YtihpjcmloecaaaaGreatRows
import Derived.WalkKit
import Derived.ProofKit
import Derived.OpenShut
import Derived.Test.YtihpjcmloecaaaaGreatMK9
namespace Go.Proofs.YtihpjcmloecaaaaGreat
open Go.ChangeShapes Go.WideShapes Go.ChangeAt Go.RowKit
open Go.Cw (zhj zo)
theorem zeq : ownKnob Tryz.prog.godebug = none := by kernel_rfl
theorem zd1 : laidOutB Tryz.prog = true := by kernel_rfl
theorem zd2 (al : List Go.Cw.AV) (h : zhj Cw.T Tryz.f5.params.toList al) : Go.Cw.qf Tryz.prog 5 al [] (fun r _ => r = zo true) := by
 rw [Tryz.params5] at h
 have h : zhj Cw.T [22] al := h
 obtain ⟨v0, a0, rfl, h0⟩ := Cw.args_ints h
 obtain rfl := Go.Cw.args_end h0
 exact Go.Cw.qf.mono (Cw.c_breaks v0) fun r H1 e => e.2
set_option maxRecDepth 100000 in
theorem zc2 (os : Os) (started : os.Started) (H : Type) (enc : TypeId × Value → H) :
  ReturnsInHanded {} Tryz.checked os 5 .any (Rows.symmetryBreaksSpec.pre6 enc Tryz.prog Tryz.f5 Rows.symmetryBreaksRow.domain false) (Rows.symmetryBreaksSpec.post enc Tryz.prog Tryz.f5 false true false false) := by
 refine returnsInHanded_of_change (C := Tryz.checked) zeq started (by kernel_rfl) Tryz.func5
  (ChangeSpec.witness6 (enc := enc) (C := Tryz.checked) false ⟨#[], #[.slice none 0 0], []⟩ 8 (by kernel_rfl) (by kernel_rfl) (by kernel_rfl) (by kernel_rfl)) ?_
 intro W base args ds gs before hval0 hW hcnd _
 exact Go.Cw.law_step (T := Cw.T) Cw.tok zd1 12 rfl (by kernel_rfl) (by kernel_rfl) Tryz.underlying4
  (fun ds hd => by match ds, hd with | [d0], _ => exact ⟨rfl, rfl, rfl⟩)
  zd2 hval0 hW (fun e he => by cases he)
theorem symmetrybreaks_holds : Rows.SymmetryBreaksSaid :=
 OpenClaim.holds_of_wide 5 Tryz.f5 rfl rfl rfl rfl rfl rfl rfl ⟨rfl, rfl, rfl, rfl, rfl⟩ rfl rfl rfl rfl rfl (by kernel_rfl) Tryz.func5 (by kernel_rfl)
  (of_decide_eq_true (by kernel_rfl)) (by unfold Func.isWrapper; first | (rw [if_pos (by decide +kernel)]; kernel_rfl) | (rw [if_neg (by decide +kernel)]; exact ⟨rfl, rfl⟩))
  (fun os started H enc _ => zc2 os started H enc)
end Go.Proofs.YtihpjcmloecaaaaGreat
