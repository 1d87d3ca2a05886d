/-
  The law on valid networks and flows (FlowValid) is true: for every network, list and tape the call returns true and the arguments read as before. No conditions.
-/
import Derived.Test.YtlhakdmenohdnaaC8
import Derived.Test.YtlhakdmenohdnaaC9
import Derived.Test.YtlhakdmenohdnaaRows
import Derived.WalkKit
import Derived.ProofKit
import Derived.OpenShut
namespace Go.Proofs.Ytlhakdmenohdnaa
open Go.ChangeShapes Go.WideShapes Go.ChangeAt Go.RowKit
open Go.Cw (ArgsOk vbool)

theorem own : ownKnob Try.prog.godebug = none := by kernel_rfl
theorem laid : laidOutB Try.prog = true := by kernel_rfl

theorem flowvalid_call (al : List Go.Cw.AV) (h : ArgsOk Cw.T Try.f3.params.toList al) : Go.Cw.ACall Try.prog 3 al [] (fun r _ => r = vbool true) := by
  rw [Try.params3] at h
  have h : ArgsOk Cw.T [24, 25, 25] al := h
  obtain ⟨n, a1, rfl, h1⟩ := Cw.args_net h
  obtain ⟨l, a2, rfl, _, h2⟩ := Cw.args_ints h1
  obtain ⟨t, a3, rfl, _, h3⟩ := Cw.args_ints h2
  obtain rfl := Cw.args_nil h3
  exact Go.Cw.ACall.mono (Cw.c_flowvalid n l t) fun r H1 e => e.2

set_option maxRecDepth 100000 in
theorem flowvalid_lifted (os : Os) (started : os.Started) (H : Type) (enc : TypeId × Value → H) :
    ReturnsInHanded {} Try.checked os 3 .any (Rows.flowValidSpec.pre6 enc Try.prog Try.f3 Rows.flowValidRow.domain false) (Rows.flowValidSpec.post enc Try.prog Try.f3 false true false false) := by
  refine returnsInHanded_of_change (C := Try.checked) own started (by kernel_rfl) Try.func3
    (ChangeSpec.witness6 (enc := enc) (C := Try.checked) false ⟨#[], #[.agg #[.int .i64 0, .slice none 0 0], .slice none 0 0, .slice none 0 0], []⟩ 8 (by kernel_rfl) (by kernel_rfl) (by kernel_rfl) (by kernel_rfl)) ?_
  intro W base args ds gs before hval0 hW hcnd _
  exact Go.Cw.law_step (T := Cw.T) Cw.tok laid 4 rfl (by kernel_rfl) (by kernel_rfl) Try.underlying4
    (fun ds hd => by match ds, hd with | [d1, d2, d3], _ => exact ⟨rfl, rfl, rfl⟩)
    flowvalid_call hval0 hW

theorem flowvalid_holds : Rows.FlowValidSaid :=
  OpenClaim.holds_of_wide 3 Try.f3 rfl rfl rfl rfl rfl rfl rfl ⟨rfl, rfl, rfl, rfl, rfl⟩ rfl rfl rfl rfl rfl (by kernel_rfl) Try.func3 (by kernel_rfl)
    (of_decide_eq_true (by kernel_rfl)) (by unfold Func.isWrapper; first | (rw [if_pos (by decide +kernel)]; kernel_rfl) | (rw [if_neg (by decide +kernel)]; exact ⟨rfl, rfl⟩))
    (fun os started H enc _ => flowvalid_lifted os started H enc)

end Go.Proofs.Ytlhakdmenohdnaa
