import Derived.Test.YtlhakdmenohdnaaAwake
namespace Go.Proofs.Ytlhakdmenohdnaa.Cw
open Go.Cw Go.Proofs
theorem awake_ok : PCall Try.prog 9 [] (fun r => r = vbool true) := by
  have h : exFun T F 100000 20 9 [] [] = some (vbool true, []) := by kernel_rfl
  exact (exFun_ok tok fok mixed 100000 20 9 [] [] _ _ h).mono fun r H' e => ⟨e.2, e.1⟩
end Go.Proofs.Ytlhakdmenohdnaa.Cw
