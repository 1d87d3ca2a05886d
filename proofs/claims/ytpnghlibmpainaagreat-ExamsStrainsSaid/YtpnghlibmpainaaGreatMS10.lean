/-
  The law ExamsStrains is true: for all arguments the call returns true and the arguments read as_ before. No conditions.
-/
import Derived.Test.YtpnghlibmpainaaGreatRows
import Derived.WalkKit
import Derived.ProofKit
import Derived.OpenShut
import Derived.Test.YtpnghlibmpainaaGreatMS9

namespace Go.Proofs.YtpnghlibmpainaaGreat.Cw
open Go.Cw Go.Proofs
set_option linter.unusedVariables false
theorem in_placed {qs : List PV} (h : PTy T 66 qs) : ∃ x : Placed, qs = x.row := by
  obtain ⟨_, _, rfl, h1, h⟩ := kd_cons (kd_struct (ts := [38, 3]) (by kernel_rfl) h)
  obtain ⟨_, _, rfl, h2, h⟩ := kd_cons h
  obtain rfl := kd_nil h
  obtain ⟨a, rfl⟩ := in_time h1
  obtain ⟨b, rfl⟩ := in_int1 h2
  exact ⟨⟨a, b⟩, rfl⟩
theorem in_placeds {qs : List PV} (h : PTy T 60 qs) : ∃ l : List Placed, qs = [.sl 5 (l.map Placed.row)] := by
  obtain ⟨l, h, _⟩ := kd_slice Placed.row (fun _ => True) (e := 66) (z := 5) (by kernel_rfl) (fun r hr => by obtain ⟨s, h⟩ := in_placed hr; exact ⟨s, h, trivial⟩) h
  exact ⟨l, h⟩
theorem args_placed {ts : List TypeId} {al : List AV} (h : ArgsOk T (60 :: ts) al) : ∃ (l : List Placed) (al' : _), al = .pv (.sl 5 (l.map Placed.row)) :: al' ∧ ArgsOk T ts al' := by
  obtain ⟨q, al', rfl, h1, h2⟩ := args_one (by kernel_rfl) h
  obtain ⟨l, h⟩ := in_placeds h1
  injection h with h; subst h
  exact ⟨l, al', rfl, h2⟩
end Go.Proofs.YtpnghlibmpainaaGreat.Cw
namespace Go.Proofs.YtpnghlibmpainaaGreat
open Go.ChangeShapes Go.WideShapes Go.ChangeAt Go.RowKit
open Go.Cw (ArgsOk vbool)

theorem own : ownKnob Tryz.prog.godebug = none := by kernel_rfl
theorem laid : laidOutB Tryz.prog = true := by kernel_rfl

theorem examsstrains_call (al : List Go.Cw.AV) (h : ArgsOk Cw.T Tryz.f6.params.toList al) : Go.Cw.ACall Tryz.prog 6 al [] (fun r _ => r = vbool true) := by
  rw [Tryz.params6] at h
  have h : ArgsOk Cw.T [24, 60] al := h
  obtain ⟨v0, a0, rfl, h0⟩ := Cw.args_ints h
  obtain ⟨v1, a1, rfl, h1⟩ := Cw.args_placed h0
  obtain rfl := Go.Cw.args_end h1
  exact Go.Cw.ACall.mono (Cw.c_examsstrains v0 v1) fun r H1 e => e.2

set_option maxRecDepth 100000 in
theorem examsstrains_lifted (os : Os) (started : os.Started) (H : Type) (enc : TypeId × Value → H) :
    ReturnsInHanded {} Tryz.checked os 6 .any (Rows.examsStrainsSpec.pre6 enc Tryz.prog Tryz.f6 Rows.examsStrainsRow.domain false) (Rows.examsStrainsSpec.post enc Tryz.prog Tryz.f6 false true false false) := by
  refine returnsInHanded_of_change (C := Tryz.checked) own started (by kernel_rfl) Tryz.func6
    (ChangeSpec.witness6 (enc := enc) (C := Tryz.checked) false ⟨#[], #[.slice none 0 0, .slice none 0 0], []⟩ 8 (by kernel_rfl) (by kernel_rfl) (by kernel_rfl) (by kernel_rfl)) ?_
  intro W base args ds gs before hval0 hW hcnd _
  exact Go.Cw.law_step (T := Cw.T) Cw.tok laid 6 rfl (by kernel_rfl) (by kernel_rfl) Tryz.underlying4
    (fun ds hd => by match ds, hd with | [d0, d1], _ => exact ⟨rfl, rfl, rfl⟩)
    examsstrains_call hval0 hW

theorem examsstrains_holds : Rows.ExamsStrainsSaid :=
  OpenClaim.holds_of_wide 6 Tryz.f6 rfl rfl rfl rfl rfl rfl rfl ⟨rfl, rfl, rfl, rfl, rfl⟩ rfl rfl rfl rfl rfl (by kernel_rfl) Tryz.func6 (by kernel_rfl)
    (of_decide_eq_true (by kernel_rfl)) (by unfold Func.isWrapper; first | (rw [if_pos (by decide +kernel)]; kernel_rfl) | (rw [if_neg (by decide +kernel)]; exact ⟨rfl, rfl⟩))
    (fun os started H enc _ => examsstrains_lifted os started H enc)

end Go.Proofs.YtpnghlibmpainaaGreat
