/-
  The law SelectionExact is true: for all arguments the call returns true and the arguments read as_ before. No conditions.
-/
import Derived.Test.YtkbaecjnhmbeeaaGreatRows
import Derived.WalkKit
import Derived.ProofKit
import Derived.OpenShut
import Derived.Test.YtkbaecjnhmbeeaaGreatMG9
namespace Go.Proofs.YtkbaecjnhmbeeaaGreat
open Go.ChangeShapes Go.WideShapes Go.ChangeAt Go.RowKit
open Go.Cw (ArgsOk vbool)
theorem own : ownKnob Tryz.prog.godebug = none := by kernel_rfl
theorem laid : laidOutB Tryz.prog = true := by kernel_rfl
theorem selectionexact_call (al : List Go.Cw.AV) (h : ArgsOk Cw.T Tryz.f4.params.toList al) : Go.Cw.ACall Tryz.prog 4 al [] (fun r _ => r = vbool true) := by
  rw [Tryz.params4] at h
  have h : ArgsOk Cw.T [37, 52, 52] al := h
  obtain ⟨v0, a0, rfl, h0⟩ := Cw.args_reg h
  obtain ⟨v1, a1, rfl, l1, h1⟩ := Cw.args_sel h0
  obtain ⟨v2, a2, rfl, l2, h2⟩ := Cw.args_sel h1
  obtain rfl := Go.Cw.args_end h2
  exact Go.Cw.ACall.mono (Cw.c_sexact v0 v1 v2 l1 l2) fun r H1 e => e.2
set_option maxRecDepth 100000 in
theorem selectionexact_lifted (os : Os) (started : os.Started) (H : Type) (enc : TypeId × Value → H) :
    ReturnsInHanded {} Tryz.checked os 4 .any (Rows.selectionExactSpec.pre6 enc Tryz.prog Tryz.f4 Rows.selectionExactRow.domain false) (Rows.selectionExactSpec.post enc Tryz.prog Tryz.f4 false true false false) := by
  refine returnsInHanded_of_change (C := Tryz.checked) own started (by kernel_rfl) Tryz.func4
    (ChangeSpec.witness6 (enc := enc) (C := Tryz.checked) false ⟨#[], #[.agg #[.int .i64 0, .int .i64 0, .int .i64 0, .int .i64 0, .int .i64 0, .int .i64 0, .slice none 0 0, .slice none 0 0, .slice none 0 0, .slice none 0 0, .slice none 0 0, .slice none 0 0, .slice none 0 0, .slice none 0 0], .agg #[.int .i64 0, .string (ByteArray.mk #[]), .slice none 0 0], .agg #[.int .i64 0, .string (ByteArray.mk #[]), .slice none 0 0]], []⟩ 8 (by kernel_rfl) (by kernel_rfl) (by kernel_rfl) (by kernel_rfl)) ?_
  intro W base args ds gs before hval0 hW hcnd _
  exact Go.Cw.law_stepS (T := Cw.T) Cw.tok laid [37, 52, 50, 23, 26, 3, 9, 24, 29, 28, 163, 27, 135, 66, 31, 184, 32, 65, 33, 241, 63, 115, 34, 120, 35] (by kernel_rfl) rfl (by kernel_rfl) (by kernel_rfl) Tryz.underlying4
    (fun ds hd => by match ds, hd with | [d0, d1, d2], _ => first | exact ⟨rfl, rfl⟩ | exact ⟨rfl, rfl, rfl⟩)
    selectionexact_call hval0 hW (fun e he => by cases he)
theorem selectionexact_holds : Rows.SelectionExactSaid :=
  OpenClaim.holds_of_wide 4 Tryz.f4 rfl rfl rfl rfl rfl rfl rfl ⟨rfl, rfl, rfl, rfl, rfl⟩ rfl rfl rfl rfl rfl (by kernel_rfl) Tryz.func4 (by kernel_rfl)
    (of_decide_eq_true (by kernel_rfl)) (by unfold Func.isWrapper; first | (rw [if_pos (by decide +kernel)]; kernel_rfl) | (rw [if_neg (by decide +kernel)]; exact ⟨rfl, rfl⟩))
    (fun os started H enc _ => selectionexact_lifted os started H enc)
end Go.Proofs.YtkbaecjnhmbeeaaGreat
