/-
  Contracts of the functions of the flow laws: networks and checks.
-/
import Derived.Test.YtlhakdmenohdnaaAwake
namespace Go.Proofs.Ytlhakdmenohdnaa.Cw
open Go.Cw Go.Proofs
set_option linter.unusedVariables false
set_option maxRecDepth 100000

structure Edge where
  (fr to ls mo co : Int)
structure Net where
  nodes : Int
  es : List Edge
def ei (n : Int) : PV := .val (.int .i64 n)
def encE (e : Edge) : List PV := [ei e.fr, ei e.to, ei e.ls, ei e.mo, ei e.co]
def encN (n : Net) : AV := .agg [.pv (ei n.nodes), .pv (.sl 5 (n.es.map encE))]
def encI (l : List Int) : AV := .pv (.sl 1 (l.map fun x => [ei x]))

def soundB (nodes : Int) (e : Edge) : Bool := decide (0 ≤ e.fr ∧ e.fr < nodes ∧ 0 ≤ e.to ∧ e.to < nodes ∧ 0 ≤ e.ls ∧ e.ls ≤ e.mo ∧ e.mo ≤ 1000 ∧ -1048576 ≤ e.co ∧ e.co ≤ 1048576)

theorem c_sound (n : Net) (e : Edge) : PCall Try.prog 30 [encN n, .agg (pvs (encE e))] (fun r => r = vbool (soundB n.nodes e)) := by
  refine acall_of tok mixed 50 rfl (fn := Try.f30) (c := Try.f30.body.getD .skip) (by kernel_rfl) (by kernel_rfl) (by kernel_rfl) rfl 0 rfl ?_
  repeat' (first | refine ops_cons ?_ | refine ops_nil ?_ | refine code_seq ?_ | refine code_region ?_ | refine code_cond ?_ | refine code_block ?_ | refine code_skip ?_ | refine code_ret ?_ | refine code_exit ?_ | (refine And.intro ?_ ?_) | (intro h; try exact Bool.noConfusion h))
  all_goals refine ⟨[], [], rfl, rfl, trivial, Or.inr ⟨trivial, _, rfl, rfl, rfl, ?_⟩⟩
  all_goals (simp only [soundB, vbool, AV.pv.injEq, PV.val.injEq, Value.bool.injEq])
  all_goals simp at *
  all_goals first | omega | (simp [*]; done) | trace_state
end Go.Proofs.Ytlhakdmenohdnaa.Cw
