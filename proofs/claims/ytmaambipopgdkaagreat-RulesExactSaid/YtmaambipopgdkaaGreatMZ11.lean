/-
  The law RulesExact is true: for all arguments the call returns true and the arguments read as before. No conditions.
-/
import Derived.Test.YtmaambipopgdkaaGreatRows
import Derived.WalkKit
import Derived.ProofKit
import Derived.OpenShut
import Derived.Test.YtmaambipopgdkaaGreatMZ10

namespace Go.Proofs.YtmaambipopgdkaaGreat
open Go.ChangeShapes Go.WideShapes Go.ChangeAt Go.RowKit
open Go.Cw (ArgsOk vbool)

theorem own : ownKnob Tryz.prog.godebug = none := by kernel_rfl
theorem laid : laidOutB Tryz.prog = true := by kernel_rfl

theorem rulesexact_call (al : List Go.Cw.AV) (h : ArgsOk Cw.T Tryz.f4.params.toList al) : Go.Cw.ACall Tryz.prog 4 al [] (fun r _ => r = vbool true) := by
  rw [Tryz.params4] at h
  have h : ArgsOk Cw.T [37, 58, 39] al := h
  obtain ⟨v0, a0, rfl, h0⟩ := Cw.args_reg h
  obtain ⟨v1, a1, rfl, l1, h1⟩ := Cw.args_rule h0
  obtain ⟨v2, a2, rfl, l2, h2⟩ := Cw.args_placed h1
  obtain rfl := Go.Cw.args_end h2
  exact Go.Cw.ACall.mono (Cw.c_rexact v0 v1 v2 l1) fun r H1 e => e.2

set_option maxRecDepth 100000 in
theorem rulesexact_lifted (os : Os) (started : os.Started) (H : Type) (enc : TypeId × Value → H) :
    ReturnsInHanded {} Tryz.checked os 4 .any (Rows.rulesExactSpec.pre6 enc Tryz.prog Tryz.f4 Rows.rulesExactRow.domain false) (Rows.rulesExactSpec.post enc Tryz.prog Tryz.f4 false true false false) := by
  refine returnsInHanded_of_change (C := Tryz.checked) own started (by kernel_rfl) Tryz.func4
    (ChangeSpec.witness6 (enc := enc) (C := Tryz.checked) false ⟨#[], #[.agg #[.int .i64 0, .int .i64 0, .int .i64 0, .int .i64 0, .int .i64 0, .int .i64 0, .slice none 0 0, .slice none 0 0, .slice none 0 0, .slice none 0 0, .slice none 0 0, .slice none 0 0, .slice none 0 0, .slice none 0 0], .agg #[.string (ByteArray.mk #[]), .int .i64 0, .int .i64 0, .int .i64 0, .string (ByteArray.mk #[]), .slice none 0 0, .int .i64 0, .string (ByteArray.mk #[]), .slice none 0 0, .int .i64 0, .slice none 0 0, .slice none 0 0, .int .i64 0], .slice none 0 0], []⟩ 8 (by kernel_rfl) (by kernel_rfl) (by kernel_rfl) (by kernel_rfl)) ?_
  intro W base args ds gs before hval0 hW hcnd _
  exact Go.Cw.law_stepS (T := Cw.T) Cw.tok laid [37, 58, 39, 72, 55, 53, 23, 26, 3, 9, 24, 29, 28, 94, 27, 69, 56, 31, 176, 32, 98, 33, 244, 96, 148, 34, 150, 35] (by kernel_rfl) rfl (by kernel_rfl) (by kernel_rfl) Tryz.underlying4
    (fun ds hd => by match ds, hd with | [d0, d1, d2], _ => first | exact ⟨rfl, rfl⟩ | exact ⟨rfl, rfl, rfl⟩)
    rulesexact_call hval0 hW

theorem rulesexact_holds : Rows.RulesExactSaid :=
  OpenClaim.holds_of_wide 4 Tryz.f4 rfl rfl rfl rfl rfl rfl rfl ⟨rfl, rfl, rfl, rfl, rfl⟩ rfl rfl rfl rfl rfl (by kernel_rfl) Tryz.func4 (by kernel_rfl)
    (of_decide_eq_true (by kernel_rfl)) (by unfold Func.isWrapper; first | (rw [if_pos (by decide +kernel)]; kernel_rfl) | (rw [if_neg (by decide +kernel)]; exact ⟨rfl, rfl⟩))
    (fun os started H enc _ => rulesexact_lifted os started H enc)

end Go.Proofs.YtmaambipopgdkaaGreat
