/-
  Cw, part H: contracts, put together.
-/
import Derived.Test.YtlhakdmenohdnaaCwPD
namespace Go.Cw
set_option linter.unusedVariables false
section
variable {P : Program} {T : Tab}

/-- A contract from a walk over the code. -/
theorem acall_of (hT : TabOk P T) (hm : P.follows .mixedOrders = true) {f : FuncId} {fn : Func} {c : Code} {args : List AV} {H : Heap} {Post : AV → Heap → Prop} (n : Nat) (hn : fn.ntmps = n)
    (hfn : P.funcs[f]? = some fn) (hname : (fn.name == "runtime.NumGoroutine") = false) (hbody : fn.body = some c) (hlen : Nat.ble args.length n = true) (nh : Nat) (hnh : H.length = nh)
    (h : xCode P T n nh c (retQ T nh fn Post) (argSlots 0 args) H) : ACall P f args H Post := by
  subst hn; subst hnh
  rw [xCode_eq] at h
  exact acall_of_code hT hm (fun _ _ _ => draws_ok hT hm) hfn hname hbody (Nat.le_of_ble_eq_true hlen) h

theorem ACall.mono {f : FuncId} {args : List AV} {H : Heap} {Post Post' : AV → Heap → Prop} (h : ACall P f args H Post) (hp : ∀ r H', Post r H' → Post' r H') : ACall P f args H Post' :=
  ⟨h.1, fun I β w vs h1 h2 h3 => (h.2 I β w vs h1 h2 h3).mono fun e w' ⟨r, H', I', β', v, e1, e2, e3⟩ => ⟨r, H', I', β', v, e1, hp r H' e2, e3⟩⟩

theorem PCall.mono {f : FuncId} {args : List AV} {Post Post' : AV → Prop} (h : PCall P f args Post) (hp : ∀ r, Post r → Post' r) : PCall P f args Post' :=
  ACall.mono h fun r H' ⟨e, k⟩ => ⟨e, hp r k⟩

end
end Go.Cw
