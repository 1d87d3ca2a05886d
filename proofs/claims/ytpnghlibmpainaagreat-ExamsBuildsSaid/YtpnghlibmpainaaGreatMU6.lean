/-
  Part 6 of the proof (M3, M4, M5, M6, D1, D2, D4, D3, D5, D6, D7): what later parts use. No conditions.
-/
import Derived.Test.YtpnghlibmpainaaGreatMU5

/-
  Contracts: searching the lists of models; charges; sizes.
-/
namespace Go.Proofs.YtpnghlibmpainaaGreat.Cw
open Go.Cw Go.Proofs
set_option linter.unusedVariables false
set_option maxRecDepth 100000
set_option maxHeartbeats 800000

theorem c_index_opt (l : List Opt) (f : FuncId) (caps : List PV) (p : Opt → Bool) (hl : l.length ≤ 100000) (hf : ∀ x ∈ l, PCall Tryz.prog f (ag (Opt.row x) :: pvs caps) (fun r => r = vbool (p x))) :
    PCall Tryz.prog 96 [.pv (.sl 6 (l.map Opt.row)), .pv (.fn f caps)] (fun r => r = vint .i64 (idxB p l)) := by
  refine acall_of tok mixed 19 rfl (fn := Tryz.f96) (c := Tryz.f96.body.getD .skip) (by kernel_rfl) (by kernel_rfl) (by kernel_rfl) rfl 0 rfl ?_
  repeat' (first | refine o1 ?_ | refine o2 ?_ | refine k1 ?_ | refine k2 ?_ | refine k4 ?_ | refine eqv_len_map ?_ | fail)
  refine loop_at (fun i : Nat => [(8, vint .i64 i)]) (fun _ => []) (fun i => i ≤ l.length ∧ ∀ j, j < i → ∀ y, l[j]? = some y → p y = false) (fun i => l.length - i) 0 ⟨by omega, fun j hj => by omega⟩ (by repeat' (first | exact trivial | exact ⟨_, rfl, ALe.refl⟩ | refine And.intro ?_ ?_)) (by repeat' (first | exact trivial)) ?_
  intro i ⟨hi, hall⟩
  rcases Nat.lt_or_ge i l.length with hlt | hge
  · obtain ⟨x, hx⟩ := getE hlt
    have hm := List.mem_of_getElem? hx
    repeat' (first | refine o1 ?_ | refine o2 ?_ | refine k1 ?_ | refine k2 ?_ | refine k3 ?_ | refine k4 ?_ | refine k6 ?_ | refine k7 ?_ | refine And.intro ?_ ?_ | (intro h; first | exact Bool.noConfusion h | exact nz _ h | exact nl h | (simp at h; done) | (simp at h; first | (exfalso; omega) | skip) | skip) | (change retOk _ _ _ _; refine ret_pure rfl trivial ?_) | refine eqv_wrap (by omega) (by omega) ?_ | refine ⟨_, _, (by first | rfl | assumption), at_map (by assumption), ?_⟩ | (change vcFun _ _ (_ ++ pvs _) _ _; refine call_cap rfl (by repeat' (first | trivial | refine And.intro ?_ ?_ | (show 0 + _ ≤ List.length _; simp))) (hf x hm) rfl ?_) | fail)
    all_goals first
      | exact ⟨i + 1, ⟨by omega, all_lt_succ hall fun y hy => by rw [hx] at hy; cases hy; assumption⟩, by omega, back [] rfl rfl trivial (by repeat' (first | exact trivial | exact rfl | refine And.intro ?_ ?_))⟩
      | exact congrArg (vint .i64) (idxB_at hall hx (by assumption)).symm
  · repeat' (first | refine o1 ?_ | refine o2 ?_ | refine k1 ?_ | refine k2 ?_ | refine k3 ?_ | refine k7 ?_ | refine k8 ?_ | refine And.intro ?_ ?_ | (intro h; first | exact Bool.noConfusion h | exact nz _ h | exact nl h | (simp at h; done) | (simp at h; first | (exfalso; omega) | skip) | skip) | (change retOk _ _ _ _; refine ret_pure rfl trivial ?_) | fail)
    exact congrArg (vint .i64) (idxB_none fun j hj => hall j (by omega)).symm

theorem c_any_opt (l : List Opt) (f : FuncId) (caps : List PV) (p : Opt → Bool) (hl : l.length ≤ 100000) (hf : ∀ x ∈ l, PCall Tryz.prog f (ag (Opt.row x) :: pvs caps) (fun r => r = vbool (p x))) :
    PCall Tryz.prog 54 [.pv (.sl 6 (l.map Opt.row)), .pv (.fn f caps)] (fun r => r = vbool (l.any p)) := by
  refine acall_of tok mixed 9 rfl (fn := Tryz.f54) (c := Tryz.f54.body.getD .skip) (by kernel_rfl) (by kernel_rfl) (by kernel_rfl) rfl 0 rfl ?_
  repeat' (first | refine o1 ?_ | refine o2 ?_ | refine k1 ?_ | refine k2 ?_ | refine k7 ?_ | (change retOk _ _ _ _; refine ret_pure rfl trivial ?_) | (change vcFun _ _ _ _ _; refine call_eq rfl (by repeat' (first | trivial | refine And.intro ?_ ?_ | (show 0 + _ ≤ List.length _; simp))) ALeL.refl (c_index_opt l f caps p hl hf) rfl ?_) | fail)
  exact congrArg vbool idxB_any

theorem c_index_count (l : List Count) (f : FuncId) (caps : List PV) (p : Count → Bool) (hl : l.length ≤ 100000) (hf : ∀ x ∈ l, PCall Tryz.prog f (ag (Count.row x) :: pvs caps) (fun r => r = vbool (p x))) :
    PCall Tryz.prog 103 [.pv (.sl 4 (l.map Count.row)), .pv (.fn f caps)] (fun r => r = vint .i64 (idxB p l)) := by
  refine acall_of tok mixed 19 rfl (fn := Tryz.f103) (c := Tryz.f103.body.getD .skip) (by kernel_rfl) (by kernel_rfl) (by kernel_rfl) rfl 0 rfl ?_
  repeat' (first | refine o1 ?_ | refine o2 ?_ | refine k1 ?_ | refine k2 ?_ | refine k4 ?_ | refine eqv_len_map ?_ | fail)
  refine loop_at (fun i : Nat => [(8, vint .i64 i)]) (fun _ => []) (fun i => i ≤ l.length ∧ ∀ j, j < i → ∀ y, l[j]? = some y → p y = false) (fun i => l.length - i) 0 ⟨by omega, fun j hj => by omega⟩ (by repeat' (first | exact trivial | exact ⟨_, rfl, ALe.refl⟩ | refine And.intro ?_ ?_)) (by repeat' (first | exact trivial)) ?_
  intro i ⟨hi, hall⟩
  rcases Nat.lt_or_ge i l.length with hlt | hge
  · obtain ⟨x, hx⟩ := getE hlt
    have hm := List.mem_of_getElem? hx
    repeat' (first | refine o1 ?_ | refine o2 ?_ | refine k1 ?_ | refine k2 ?_ | refine k3 ?_ | refine k4 ?_ | refine k6 ?_ | refine k7 ?_ | refine And.intro ?_ ?_ | (intro h; first | exact Bool.noConfusion h | exact nz _ h | exact nl h | (simp at h; done) | (simp at h; first | (exfalso; omega) | skip) | skip) | (change retOk _ _ _ _; refine ret_pure rfl trivial ?_) | refine eqv_wrap (by omega) (by omega) ?_ | refine ⟨_, _, (by first | rfl | assumption), at_map (by assumption), ?_⟩ | (change vcFun _ _ (_ ++ pvs _) _ _; refine call_cap rfl (by repeat' (first | trivial | refine And.intro ?_ ?_ | (show 0 + _ ≤ List.length _; simp))) (hf x hm) rfl ?_) | fail)
    all_goals first
      | exact ⟨i + 1, ⟨by omega, all_lt_succ hall fun y hy => by rw [hx] at hy; cases hy; assumption⟩, by omega, back [] rfl rfl trivial (by repeat' (first | exact trivial | exact rfl | refine And.intro ?_ ?_))⟩
      | exact congrArg (vint .i64) (idxB_at hall hx (by assumption)).symm
  · repeat' (first | refine o1 ?_ | refine o2 ?_ | refine k1 ?_ | refine k2 ?_ | refine k3 ?_ | refine k7 ?_ | refine k8 ?_ | refine And.intro ?_ ?_ | (intro h; first | exact Bool.noConfusion h | exact nz _ h | exact nl h | (simp at h; done) | (simp at h; first | (exfalso; omega) | skip) | skip) | (change retOk _ _ _ _; refine ret_pure rfl trivial ?_) | fail)
    exact congrArg (vint .i64) (idxB_none fun j hj => hall j (by omega)).symm

theorem c_any_count (l : List Count) (f : FuncId) (caps : List PV) (p : Count → Bool) (hl : l.length ≤ 100000) (hf : ∀ x ∈ l, PCall Tryz.prog f (ag (Count.row x) :: pvs caps) (fun r => r = vbool (p x))) :
    PCall Tryz.prog 59 [.pv (.sl 4 (l.map Count.row)), .pv (.fn f caps)] (fun r => r = vbool (l.any p)) := by
  refine acall_of tok mixed 9 rfl (fn := Tryz.f59) (c := Tryz.f59.body.getD .skip) (by kernel_rfl) (by kernel_rfl) (by kernel_rfl) rfl 0 rfl ?_
  repeat' (first | refine o1 ?_ | refine o2 ?_ | refine k1 ?_ | refine k2 ?_ | refine k7 ?_ | (change retOk _ _ _ _; refine ret_pure rfl trivial ?_) | (change vcFun _ _ _ _ _; refine call_eq rfl (by repeat' (first | trivial | refine And.intro ?_ ?_ | (show 0 + _ ≤ List.length _; simp))) ALeL.refl (c_index_count l f caps p hl hf) rfl ?_) | fail)
  exact congrArg vbool idxB_any

theorem c_index_opts (l : List (List Opt)) (f : FuncId) (caps : List PV) (p : (List Opt) → Bool) (hl : l.length ≤ 100000) (hf : ∀ x ∈ l, PCall Tryz.prog f (AV.pv (PV.sl 6 (List.map Opt.row x)) :: pvs caps) (fun r => r = vbool (p x))) :
    PCall Tryz.prog 137 [.pv (.sl 1 (l.map optsRow)), .pv (.fn f caps)] (fun r => r = vint .i64 (idxB p l)) := by
  refine acall_of tok mixed 19 rfl (fn := Tryz.f137) (c := Tryz.f137.body.getD .skip) (by kernel_rfl) (by kernel_rfl) (by kernel_rfl) rfl 0 rfl ?_
  repeat' (first | refine o1 ?_ | refine o2 ?_ | refine k1 ?_ | refine k2 ?_ | refine k4 ?_ | refine eqv_len_map ?_ | fail)
  refine loop_at (fun i : Nat => [(8, vint .i64 i)]) (fun _ => []) (fun i => i ≤ l.length ∧ ∀ j, j < i → ∀ y, l[j]? = some y → p y = false) (fun i => l.length - i) 0 ⟨by omega, fun j hj => by omega⟩ (by repeat' (first | exact trivial | exact ⟨_, rfl, ALe.refl⟩ | refine And.intro ?_ ?_)) (by repeat' (first | exact trivial)) ?_
  intro i ⟨hi, hall⟩
  rcases Nat.lt_or_ge i l.length with hlt | hge
  · obtain ⟨x, hx⟩ := getE hlt
    have hm := List.mem_of_getElem? hx
    repeat' (first | refine o1 ?_ | refine o2 ?_ | refine k1 ?_ | refine k2 ?_ | refine k3 ?_ | refine k4 ?_ | refine k6 ?_ | refine k7 ?_ | refine And.intro ?_ ?_ | (intro h; first | exact Bool.noConfusion h | exact nz _ h | exact nl h | (simp at h; done) | (simp at h; first | (exfalso; omega) | skip) | skip) | (change retOk _ _ _ _; refine ret_pure rfl trivial ?_) | refine eqv_wrap (by omega) (by omega) ?_ | refine ⟨_, _, (by first | rfl | assumption), at_map (by assumption), ?_⟩ | (change vcFun _ _ (_ ++ pvs _) _ _; refine call_cap rfl (by repeat' (first | trivial | refine And.intro ?_ ?_ | (show 0 + _ ≤ List.length _; simp))) (hf x hm) rfl ?_) | fail)
    all_goals first
      | exact ⟨i + 1, ⟨by omega, all_lt_succ hall fun y hy => by rw [hx] at hy; cases hy; assumption⟩, by omega, back [] rfl rfl trivial (by repeat' (first | exact trivial | exact rfl | refine And.intro ?_ ?_))⟩
      | exact congrArg (vint .i64) (idxB_at hall hx (by assumption)).symm
  · repeat' (first | refine o1 ?_ | refine o2 ?_ | refine k1 ?_ | refine k2 ?_ | refine k3 ?_ | refine k7 ?_ | refine k8 ?_ | refine And.intro ?_ ?_ | (intro h; first | exact Bool.noConfusion h | exact nz _ h | exact nl h | (simp at h; done) | (simp at h; first | (exfalso; omega) | skip) | skip) | (change retOk _ _ _ _; refine ret_pure rfl trivial ?_) | fail)
    exact congrArg (vint .i64) (idxB_none fun j hj => hall j (by omega)).symm

theorem c_any_opts (l : List (List Opt)) (f : FuncId) (caps : List PV) (p : (List Opt) → Bool) (hl : l.length ≤ 100000) (hf : ∀ x ∈ l, PCall Tryz.prog f (AV.pv (PV.sl 6 (List.map Opt.row x)) :: pvs caps) (fun r => r = vbool (p x))) :
    PCall Tryz.prog 95 [.pv (.sl 1 (l.map optsRow)), .pv (.fn f caps)] (fun r => r = vbool (l.any p)) := by
  refine acall_of tok mixed 9 rfl (fn := Tryz.f95) (c := Tryz.f95.body.getD .skip) (by kernel_rfl) (by kernel_rfl) (by kernel_rfl) rfl 0 rfl ?_
  repeat' (first | refine o1 ?_ | refine o2 ?_ | refine k1 ?_ | refine k2 ?_ | refine k7 ?_ | (change retOk _ _ _ _; refine ret_pure rfl trivial ?_) | (change vcFun _ _ _ _ _; refine call_eq rfl (by repeat' (first | trivial | refine And.intro ?_ ?_ | (show 0 + _ ≤ List.length _; simp))) ALeL.refl (c_index_opts l f caps p hl hf) rfl ?_) | fail)
  exact congrArg vbool idxB_any

theorem c_index_int (l : List Int) (f : FuncId) (caps : List PV) (p : Int → Bool) (hl : l.length ≤ 100000) (hf : ∀ x ∈ l, PCall Tryz.prog f (vint .i64 x :: pvs caps) (fun r => r = vbool (p x))) :
    PCall Tryz.prog 138 [.pv (.sl 1 (l.map (fun n => [ei n]))), .pv (.fn f caps)] (fun r => r = vint .i64 (idxB p l)) := by
  refine acall_of tok mixed 19 rfl (fn := Tryz.f138) (c := Tryz.f138.body.getD .skip) (by kernel_rfl) (by kernel_rfl) (by kernel_rfl) rfl 0 rfl ?_
  repeat' (first | refine o1 ?_ | refine o2 ?_ | refine k1 ?_ | refine k2 ?_ | refine k4 ?_ | refine eqv_len_map ?_ | fail)
  refine loop_at (fun i : Nat => [(8, vint .i64 i)]) (fun _ => []) (fun i => i ≤ l.length ∧ ∀ j, j < i → ∀ y, l[j]? = some y → p y = false) (fun i => l.length - i) 0 ⟨by omega, fun j hj => by omega⟩ (by repeat' (first | exact trivial | exact ⟨_, rfl, ALe.refl⟩ | refine And.intro ?_ ?_)) (by repeat' (first | exact trivial)) ?_
  intro i ⟨hi, hall⟩
  rcases Nat.lt_or_ge i l.length with hlt | hge
  · obtain ⟨x, hx⟩ := getE hlt
    have hm := List.mem_of_getElem? hx
    repeat' (first | refine o1 ?_ | refine o2 ?_ | refine k1 ?_ | refine k2 ?_ | refine k3 ?_ | refine k4 ?_ | refine k6 ?_ | refine k7 ?_ | refine And.intro ?_ ?_ | (intro h; first | exact Bool.noConfusion h | exact nz _ h | exact nl h | (simp at h; done) | (simp at h; first | (exfalso; omega) | skip) | skip) | (change retOk _ _ _ _; refine ret_pure rfl trivial ?_) | refine eqv_wrap (by omega) (by omega) ?_ | refine ⟨_, _, (by first | rfl | assumption), at_map (by assumption), ?_⟩ | (change vcFun _ _ (_ ++ pvs _) _ _; refine call_cap rfl (by repeat' (first | trivial | refine And.intro ?_ ?_ | (show 0 + _ ≤ List.length _; simp))) (hf x hm) rfl ?_) | fail)
    all_goals first
      | exact ⟨i + 1, ⟨by omega, all_lt_succ hall fun y hy => by rw [hx] at hy; cases hy; assumption⟩, by omega, back [] rfl rfl trivial (by repeat' (first | exact trivial | exact rfl | refine And.intro ?_ ?_))⟩
      | exact congrArg (vint .i64) (idxB_at hall hx (by assumption)).symm
  · repeat' (first | refine o1 ?_ | refine o2 ?_ | refine k1 ?_ | refine k2 ?_ | refine k3 ?_ | refine k7 ?_ | refine k8 ?_ | refine And.intro ?_ ?_ | (intro h; first | exact Bool.noConfusion h | exact nz _ h | exact nl h | (simp at h; done) | (simp at h; first | (exfalso; omega) | skip) | skip) | (change retOk _ _ _ _; refine ret_pure rfl trivial ?_) | fail)
    exact congrArg (vint .i64) (idxB_none fun j hj => hall j (by omega)).symm

theorem c_any_int (l : List Int) (f : FuncId) (caps : List PV) (p : Int → Bool) (hl : l.length ≤ 100000) (hf : ∀ x ∈ l, PCall Tryz.prog f (vint .i64 x :: pvs caps) (fun r => r = vbool (p x))) :
    PCall Tryz.prog 99 [.pv (.sl 1 (l.map (fun n => [ei n]))), .pv (.fn f caps)] (fun r => r = vbool (l.any p)) := by
  refine acall_of tok mixed 9 rfl (fn := Tryz.f99) (c := Tryz.f99.body.getD .skip) (by kernel_rfl) (by kernel_rfl) (by kernel_rfl) rfl 0 rfl ?_
  repeat' (first | refine o1 ?_ | refine o2 ?_ | refine k1 ?_ | refine k2 ?_ | refine k7 ?_ | (change retOk _ _ _ _; refine ret_pure rfl trivial ?_) | (change vcFun _ _ _ _ _; refine call_eq rfl (by repeat' (first | trivial | refine And.intro ?_ ?_ | (show 0 + _ ≤ List.length _; simp))) ALeL.refl (c_index_int l f caps p hl hf) rfl ?_) | fail)
  exact congrArg vbool idxB_any

theorem charge_zero {m : Model} {l : List Charge} {c : Charge} (hc : l[0]? = some c) (h1 : ruleP m c.rule) (h2 : priceP c.cost) : chargeAt m l 0 := fun c' h' => by
  rw [hc] at h'; cases h'
  exact ⟨h1, h2, fun k b e => by omega⟩
theorem charge_next {m : Model} {l : List Charge} {k : Nat} {c b : Charge} (hc : l[k + 1]? = some c) (hb : l[k]? = some b) (h1 : ruleP m c.rule) (h2 : priceP c.cost) (h3 : b.rule < c.rule) : chargeAt m l (k + 1) := fun c' h' => by
  rw [hc] at h'; cases h'
  refine ⟨h1, h2, fun k' b' e hb' => ?_⟩
  obtain rfl : k = k' := by omega
  rw [hb] at hb'; cases hb'; exact h3
theorem sizedP_iff {m : Model} (h : ∀ l ∈ m.classes, l.length ≤ 24) : sizedP m ↔ m.classes.length ≤ 24 ∧ m.pairs.length ≤ 4000 ∧ m.counts.length ≤ 800 ∧ 0 ≤ m.rules ∧ m.rules ≤ 56 :=
  ⟨fun ⟨a, _, b⟩ => ⟨a, b⟩, fun ⟨a, b⟩ => ⟨a, h, b⟩⟩
theorem c_charged (m : Model) (o : Opt) (ho : o.charges.length ≤ 9223372036854775807) : PCall Tryz.prog 56 [ag m.cells, ag o.row] (fun r => r = vbool (pB (chargesP m o))) := by
  refine acall_of tok mixed 43 rfl (fn := Tryz.f56) (c := Tryz.f56.body.getD .skip) (by kernel_rfl) (by kernel_rfl) (by kernel_rfl) rfl 0 rfl ?_
  repeat' (first | refine o1 ?_ | refine o2 ?_ | refine k1 ?_ | refine k2 ?_ | refine k4 ?_ | refine eqv_len_map ?_ | fail)
  refine loop_at (fun i : Nat => [(10, vint .i64 i)]) (fun _ => []) (fun i => i ≤ o.charges.length ∧ ∀ j, j < i → chargeAt m o.charges j) (fun i => o.charges.length - i) 0 ⟨by omega, fun j hj => by omega⟩ (by repeat' (first | exact trivial | exact ⟨_, rfl, ALe.refl⟩ | refine And.intro ?_ ?_)) (by repeat' (first | exact trivial | exact rfl | refine And.intro ?_ ?_)) ?_
  intro i ⟨hi, hall⟩
  rcases Nat.lt_or_ge i o.charges.length with hlt | hge
  · obtain ⟨c, hc⟩ := getE hlt
    rcases i with _ | k
    · repeat' (first | refine o1 ?_ | refine o2 ?_ | refine k1 ?_ | refine k2 ?_ | refine k3 ?_ | refine k4 ?_ | refine k6 ?_ | refine k7 ?_ | refine k8 ?_ | refine And.intro ?_ ?_ | refine o3 ?_ | refine o4 ?_ | (intro h; first | exact Bool.noConfusion h | exact nz _ h | exact nl h | (simp at h; done) | (simp at h; first | (exfalso; omega) | skip) | skip) | (change retOk _ _ _ _; refine ret_pure rfl trivial ?_) | exact (by kernel_rfl : drawOk _ _ = true) | refine eqv_wrap (by omega) (by omega) ?_ | refine ⟨_, _, (by first | rfl | assumption), at_map (by assumption), ?_⟩ | (change vcFunD _ _ _ _ _; refine callD_eq rfl (by repeat' (first | trivial | refine And.intro ?_ ?_ | (show 0 + _ ≤ List.length _; simp))) ALeL.refl (c_named m c.rule) rfl ?_) | (change vcFunD _ _ _ _ _; refine callD_eq rfl (by repeat' (first | trivial | refine And.intro ?_ ?_ | (show 0 + _ ≤ List.length _; simp))) ALeL.refl (c_cost c.cost) rfl ?_) | fail)
      all_goals first
        | (exfalso; omega)
        | (refine congrArg vbool (pB_f fun h => ?_).symm; obtain ⟨g1, g2, g3⟩ := h _ hlt c hc; first | exact absurd g1 (by assumption) | exact absurd g2 (by assumption))
        | exact ⟨1, ⟨by omega, all_lt_succ hall (charge_zero hc (by assumption) (by assumption))⟩, by omega, back [0, 1] rfl rfl ⟨rfl, rfl, trivial⟩ (by repeat' (first | exact trivial | exact rfl | refine And.intro ?_ ?_))⟩
        | (exfalso; simp_all; done)
    · obtain ⟨b, hb⟩ := getE (show k < o.charges.length by omega)
      repeat' (first | (refine idx_sl (k := k + 1) (at_map hc) (by omega) ?_) | (refine idx_sl (k := k) (at_map hb) (by omega) ?_) | refine o1 ?_ | refine o2 ?_ | refine k1 ?_ | refine k2 ?_ | refine k3 ?_ | refine k4 ?_ | refine k6 ?_ | refine k7 ?_ | refine And.intro ?_ ?_ | refine o3 ?_ | refine o4 ?_ | (intro h; first | exact Bool.noConfusion h | exact nz _ h | exact nl h | (simp at h; done) | (simp at h; first | (exfalso; omega) | skip) | skip) | (change retOk _ _ _ _; refine ret_pure rfl trivial ?_) | exact (by kernel_rfl : drawOk _ _ = true) | refine eqv_wrap (by omega) (by omega) ?_ | (change vcFunD _ _ _ _ _; refine callD_eq rfl (by repeat' (first | trivial | refine And.intro ?_ ?_ | (show 0 + _ ≤ List.length _; simp))) ALeL.refl (c_named m c.rule) rfl ?_) | (change vcFunD _ _ _ _ _; refine callD_eq rfl (by repeat' (first | trivial | refine And.intro ?_ ?_ | (show 0 + _ ≤ List.length _; simp))) ALeL.refl (c_cost c.cost) rfl ?_) | fail)
      all_goals first
        | (exfalso; omega)
        | (refine congrArg vbool (pB_f fun h => ?_).symm; obtain ⟨g1, g2, g3⟩ := h _ hlt c hc; first | exact absurd g1 (by assumption) | exact absurd g2 (by assumption) | (have := g3 k b rfl hb; omega))
        | exact ⟨k + 2, ⟨by omega, all_lt_succ hall (charge_next hc hb (by assumption) (by assumption) (by omega))⟩, by omega, back [0, 1] rfl rfl ⟨rfl, rfl, trivial⟩ (by repeat' (first | exact trivial | exact rfl | refine And.intro ?_ ?_))⟩
  · repeat' (first | refine o1 ?_ | refine o2 ?_ | refine k1 ?_ | refine k2 ?_ | refine k3 ?_ | refine k7 ?_ | refine k8 ?_ | refine And.intro ?_ ?_ | (intro h; first | exact Bool.noConfusion h | exact nz _ h | exact nl h | (simp at h; done) | (simp at h; first | (exfalso; omega) | skip) | skip) | (change retOk _ _ _ _; refine ret_pure rfl trivial ?_) | fail)
    all_goals first
      | exact congrArg vbool (pB_t fun j hj => hall j (by omega)).symm
theorem c_many (l : List Opt) : PCall Tryz.prog 94 [.pv (.sl 6 (l.map Opt.row))] (fun r => r = vbool (decide (24 < l.length))) := by
  refine acall_of tok mixed 6 rfl (fn := Tryz.f94) (c := Tryz.f94.body.getD .skip) (by kernel_rfl) (by kernel_rfl) (by kernel_rfl) rfl 0 rfl ?_
  repeat' (first | refine o1 ?_ | refine o2 ?_ | refine k1 ?_ | refine k2 ?_ | refine k7 ?_ | (change retOk _ _ _ _; refine ret_pure rfl trivial ?_) | refine eqv_len_map ?_ | fail)
  all_goals (refine congrArg vbool (decide_eq_decide.2 ?_); omega)
theorem c_large (m : Model) : PCall Tryz.prog 53 [ag m.cells] (fun r => r = vbool (pB (¬ sizedP m))) := by
  refine acall_of tok mixed 36 rfl (fn := Tryz.f53) (c := Tryz.f53.body.getD .skip) (by kernel_rfl) (by kernel_rfl) (by kernel_rfl) rfl 0 rfl ?_
  repeat' (first | refine o1 ?_ | refine o2 ?_ | refine k1 ?_ | refine k2 ?_ | refine k7 ?_ | refine And.intro ?_ ?_ | (intro h; first | exact Bool.noConfusion h | exact nz _ h | exact nl h | (simp at h; done) | (simp at h; first | (exfalso; omega) | skip) | skip) | (change retOk _ _ _ _; refine ret_pure rfl trivial ?_) | refine eqv_len_map ?_ | (change vcFun _ _ _ _ _; refine call_eq rfl (by repeat' (first | trivial | refine And.intro ?_ ?_ | (show 0 + _ ≤ List.length _; simp))) ALeL.refl (c_any_opts m.classes 94 [] (fun x => decide (24 < x.length)) (by omega) (fun x _ => c_many x)) rfl ?_) | fail)
  all_goals first
    | (refine congrArg vbool (pB_eq ?_); rw [sizedP_iff (by assumption), decide_eq_true_iff]; omega)
    | (refine congrArg vbool (pB_t fun h => ?_).symm; obtain ⟨h1, h2, h3, h4, h5, h6⟩ := h; omega)
    | (refine congrArg vbool (pB_t fun h => ?_).symm; obtain ⟨x, hx, h7⟩ := (by assumption : ∃ x, x ∈ m.classes ∧ 24 < List.length x); have := h.2.1 x hx; omega)
end Go.Proofs.YtpnghlibmpainaaGreat.Cw

/-
  Contracts: pairs of models.
-/
namespace Go.Proofs.YtpnghlibmpainaaGreat.Cw
open Go.Cw Go.Proofs
set_option linter.unusedVariables false
set_option maxRecDepth 100000
set_option maxHeartbeats 800000

theorem c_order (p q : Pair) : PCall Tryz.prog 58 [ag p.row, ag q.row] (fun r => r = vint .i64 (orI [cmpI p.rule q.rule, cmpI p.first q.first, cmpI p.second q.second])) := by
  refine acall_of tok mixed 22 rfl (fn := Tryz.f58) (c := Tryz.f58.body.getD .skip) (by kernel_rfl) (by kernel_rfl) (by kernel_rfl) rfl 0 rfl ?_
  repeat' (first | refine o1 ?_ | refine o2 ?_ | refine k1 ?_ | refine k2 ?_ | refine k7 ?_ | refine And.intro ?_ ?_ | refine o3 ?_ | refine o4 ?_ | (change retOk _ _ _ _; refine ret_pure rfl trivial ?_) | exact (by kernel_rfl : drawOk _ _ = true) | (change vcFunD _ _ _ _ _; refine callD_eq rfl (by repeat' (first | trivial | refine And.intro ?_ ?_ | (show 0 + _ ≤ List.length _; simp))) ALeL.refl (c_cmp _ _) rfl ?_) | (change vcFunD _ _ _ _ _; refine callD_eq rfl (by repeat' (first | trivial | refine And.intro ?_ ?_ | (show 0 + _ ≤ List.length _; simp))) ALeL.refl (c_or [cmpI p.rule q.rule, cmpI p.first q.first, cmpI p.second q.second] (Nat.le_of_ble_eq_true rfl)) rfl ?_) | fail)
  all_goals exact rfl
theorem pair_cmp {p q : Pair} : orI [cmpI p.rule q.rule, cmpI p.first q.first, cmpI p.second q.second] < 0 ↔ pairLt p q := by
  simp only [orI, cmpI, pairLt]
  grind
theorem c_paired1 (n : Int) : PCall Tryz.prog 100 [vint .i64 n] (fun r => r = vbool (pB (n ≠ 0 ∧ ¬ priceP n))) := by
  refine acall_of tok mixed 10 rfl (fn := Tryz.f100) (c := Tryz.f100.body.getD .skip) (by kernel_rfl) (by kernel_rfl) (by kernel_rfl) rfl 0 rfl ?_
  repeat' (first | refine o1 ?_ | refine o2 ?_ | refine k1 ?_ | refine k2 ?_ | refine k7 ?_ | refine And.intro ?_ ?_ | (intro h; first | exact Bool.noConfusion h | exact nz _ h | exact nl h | (simp at h; done) | (simp at h; first | (exfalso; omega) | skip) | skip) | (change retOk _ _ _ _; refine ret_pure rfl trivial ?_) | (change vcFun _ _ _ _ _; refine call_eq rfl (by repeat' (first | trivial | refine And.intro ?_ ?_ | (show 0 + _ ≤ List.length _; simp))) ALeL.refl (c_cost n) rfl ?_) | fail)
  all_goals first
    | exact congrArg vbool (pB_f fun h => h.1 (by assumption)).symm
    | exact congrArg vbool (pB_eq (by simp_all))
theorem price_any {t : List Int} : (!t.any fun n => pB (n ≠ 0 ∧ ¬ priceP n)) = true ↔ ∀ x ∈ t, x = 0 ∨ priceP x := by
  simp only [Bool.not_eq_true', List.any_eq_false, decide_eq_true_eq]
  constructor
  · intro h x hx
    have := h x hx
    by_cases h0 : x = 0
    · exact .inl h0
    · exact .inr (Classical.byContradiction fun h1 => this ⟨h0, h1⟩)
  · intro h x hx ⟨h0, h1⟩
    rcases h x hx with h2 | h2
    · exact h0 h2
    · exact h1 h2
theorem pair_iff {m : Model} {n k : Nat} {r : Int} {t : List Int} {a b : List Opt} (ha : m.classes[n]? = some a) (hb : m.classes[k]? = some b) (hnk : (n : Int) < k) : pairP m ⟨n, k, r, t⟩ ↔ ruleP m r ∧ t.length = a.length * b.length ∧ ∀ x ∈ t, x = 0 ∨ priceP x := by
  unfold pairP
  simp only [Int.toNat_natCast, ha, hb]
  constructor
  · rintro ⟨h1, h2, h3, ⟨a', b', h4, h5, h6⟩, h7⟩
    cases h4; cases h5; exact ⟨h1, h6, h7⟩
  · rintro ⟨h1, h2, h3⟩
    exact ⟨h1, by omega, hnk, ⟨a, b, rfl, rfl, h2⟩, h3⟩
theorem pair_f {m : Model} {p : Pair} (h : ¬ (0 ≤ p.first ∧ p.first < p.second ∧ p.second < m.classes.length)) : ¬ pairP m p := fun ⟨h1, h2, h3, ⟨a, b, h4, h5, h6⟩, h7⟩ => by
  have := (List.getElem?_eq_some_iff.1 h5).1
  omega
theorem c_paired (m : Model) (p : Pair) (hz : sizedP m) : PCall Tryz.prog 57 [ag m.cells, ag p.row] (fun r => r = vbool (pB (pairP m p))) := by
  by_cases h : 0 ≤ p.first ∧ p.first < p.second ∧ p.second < m.classes.length
  · obtain ⟨h1, h2, h3⟩ := h
    obtain ⟨f, s, r, t⟩ := p
    dsimp only at h1 h2 h3 ⊢
    obtain ⟨n, rfl⟩ := Int.eq_ofNat_of_zero_le h1
    obtain ⟨k, rfl⟩ := Int.eq_ofNat_of_zero_le (show 0 ≤ s by omega)
    obtain ⟨a, ha⟩ := getE (show n < m.classes.length by omega)
    obtain ⟨b, hb⟩ := getE (show k < m.classes.length by omega)
    have hla := hz.2.1 a (List.mem_of_getElem? ha)
    have hlb := hz.2.1 b (List.mem_of_getElem? hb)
    have hab : a.length * b.length ≤ 576 := Nat.mul_le_mul hla hlb
    have hab1 : (a.length : Int) * b.length ≤ 576 := by exact_mod_cast hab
    have hab0 : (0 : Int) ≤ (a.length : Int) * b.length := by exact_mod_cast Nat.zero_le _
    have hcast : ((a.length * b.length : Nat) : Int) = (a.length : Int) * b.length := by simp
    refine acall_of tok mixed 55 rfl (fn := Tryz.f57) (c := Tryz.f57.body.getD .skip) (by kernel_rfl) (by kernel_rfl) (by kernel_rfl) rfl 0 rfl ?_
    rw [pB_iff (pair_iff ha hb h2)]
    repeat' (first | refine o1 ?_ | refine o2 ?_ | refine k1 ?_ | refine k2 ?_ | refine k3 ?_ | refine k6 ?_ | refine k7 ?_ | refine And.intro ?_ ?_ | refine o3 ?_ | refine o4 ?_ | (intro h; first | exact Bool.noConfusion h | exact nz _ h | exact nl h | (simp at h; done) | (simp at h; first | (exfalso; omega) | skip) | skip) | (change retOk _ _ _ _; refine ret_pure rfl trivial ?_) | exact (by kernel_rfl : drawOk _ _ = true) | refine eqv_len_map ?_ | refine eqv_wrap (by omega) (by omega) ?_ | refine ⟨_, _, (by first | rfl | assumption), at_map (by assumption), ?_⟩ | (change vcFunD _ _ _ _ _; refine callD_eq rfl (by repeat' (first | trivial | refine And.intro ?_ ?_ | (show 0 + _ ≤ List.length _; simp))) ALeL.refl (c_named m r) rfl ?_) | (change vcFun _ _ _ _ _; refine call_eq rfl (by repeat' (first | trivial | refine And.intro ?_ ?_ | (show 0 + _ ≤ List.length _; simp))) ALeL.refl (c_any_int t 100 [] (fun n => pB (n ≠ 0 ∧ ¬ priceP n)) (by omega) (fun n _ => c_paired1 n)) rfl ?_) | fail)
    all_goals first
      | (refine congrArg vbool (pB_f fun h => ?_).symm; obtain ⟨g1, g2, g3⟩ := h; first | exact absurd g1 (by assumption) | omega)
      | (refine congrArg vbool (pB_eq ?_); rw [price_any]; exact ⟨fun g => ⟨by assumption, by omega, g⟩, fun g => g.2.2⟩)
      | (exfalso; omega)
  · refine acall_of tok mixed 55 rfl (fn := Tryz.f57) (c := Tryz.f57.body.getD .skip) (by kernel_rfl) (by kernel_rfl) (by kernel_rfl) rfl 0 rfl ?_
    rw [pB_f (pair_f h)]
    repeat' (first | refine o1 ?_ | refine o2 ?_ | refine k1 ?_ | refine k2 ?_ | refine k3 ?_ | refine k7 ?_ | refine And.intro ?_ ?_ | refine o3 ?_ | refine o4 ?_ | (intro h; first | exact Bool.noConfusion h | exact nz _ h | exact nl h | (simp at h; done) | (simp at h; first | (exfalso; omega) | skip) | skip) | (change retOk _ _ _ _; refine ret_pure rfl trivial ?_) | exact (by kernel_rfl : drawOk _ _ = true) | refine eqv_len_map ?_ | (change vcFunD _ _ _ _ _; refine callD_eq rfl (by repeat' (first | trivial | refine And.intro ?_ ?_ | (show 0 + _ ≤ List.length _; simp))) ALeL.refl (c_named m p.rule) rfl ?_) | fail)
    all_goals first
      | exact rfl
      | (exfalso; omega)
theorem pairAt_zero {m : Model} {p : Pair} (hp : m.pairs[0]? = some p) : pairAt m 0 ↔ pairP m p :=
  ⟨fun h => (h p hp).1, fun h p' hp' => by rw [hp] at hp'; cases hp'; exact ⟨h, fun k q e => by omega⟩⟩
theorem pairAt_next {m : Model} {k : Nat} {p q : Pair} (hp : m.pairs[k + 1]? = some p) (hq : m.pairs[k]? = some q) : pairAt m (k + 1) ↔ pairP m p ∧ pairLt q p :=
  ⟨fun h => ⟨(h p hp).1, (h p hp).2 k q rfl hq⟩, fun h p' hp' => by
    rw [hp] at hp'; cases hp'
    refine ⟨h.1, fun k' q' e hq' => ?_⟩
    obtain rfl : k = k' := by omega
    rw [hq] at hq'; cases hq'; exact h.2⟩
end Go.Proofs.YtpnghlibmpainaaGreat.Cw

/-
  Contracts: counts of models.
-/
namespace Go.Proofs.YtpnghlibmpainaaGreat.Cw
open Go.Cw Go.Proofs
set_option linter.unusedVariables false
set_option maxRecDepth 100000
set_option maxHeartbeats 800000

def loadLt (y x : Load) : Prop := y.cls < x.cls ∨ (y.cls = x.cls ∧ y.opt < x.opt)
theorem load_zero {m : Model} {l : List Load} {x : Load} (hx : l[0]? = some x) : loadAt m l 0 ↔ optionP m x.cls x.opt ∧ 1 ≤ x.weight ∧ x.weight ≤ 1000 :=
  ⟨fun h => ⟨(h x hx).1, (h x hx).2.1, (h x hx).2.2.1⟩, fun h x' h' => by rw [hx] at h'; cases h'; exact ⟨h.1, h.2.1, h.2.2, fun k y e => by omega⟩⟩
theorem load_next {m : Model} {l : List Load} {k : Nat} {x y : Load} (hx : l[k + 1]? = some x) (hy : l[k]? = some y) : loadAt m l (k + 1) ↔ optionP m x.cls x.opt ∧ 1 ≤ x.weight ∧ x.weight ≤ 1000 ∧ loadLt y x :=
  ⟨fun h => ⟨(h x hx).1, (h x hx).2.1, (h x hx).2.2.1, (h x hx).2.2.2 k y rfl hy⟩, fun h x' h' => by
    rw [hx] at h'; cases h'
    refine ⟨h.1, h.2.1, h.2.2.1, fun k' y' e hy' => ?_⟩
    obtain rfl : k = k' := by omega
    rw [hy] at hy'; cases hy'; exact h.2.2.2⟩
theorem load_cmp {y x : Load} : orI [cmpI y.cls x.cls, cmpI y.opt x.opt] < 0 ↔ loadLt y x := by
  simp only [orI, cmpI, loadLt]
  grind
theorem load_cmp2 {y x : Load} : 0 ≤ orI [cmpI y.cls x.cls, cmpI y.opt x.opt] ↔ ¬ loadLt y x := by
  rw [← load_cmp]; omega
theorem c_counted (m : Model) (c : Count) (hc : c.loads.length ≤ 9223372036854775807) : PCall Tryz.prog 61 [ag m.cells, ag c.row] (fun r => r = vbool (pB (countP_ m c))) := by
  refine acall_of tok mixed 81 rfl (fn := Tryz.f61) (c := Tryz.f61.body.getD .skip) (by kernel_rfl) (by kernel_rfl) (by kernel_rfl) rfl 0 rfl ?_
  repeat' (first | refine o1 ?_ | refine o2 ?_ | refine k1 ?_ | refine k2 ?_ | refine k3 ?_ | refine k4 ?_ | refine k6 ?_ | refine k7 ?_ | refine And.intro ?_ ?_ | (intro h; first | exact Bool.noConfusion h | exact nz _ h | exact nl h | (simp at h; done) | (simp at h; first | (exfalso; omega) | skip) | skip) | (change retOk _ _ _ _; refine ret_pure rfl trivial ?_) | refine eqv_len_map ?_ | (change vcFun _ _ _ _ _; refine call_eq rfl (by repeat' (first | trivial | refine And.intro ?_ ?_ | (show 0 + _ ≤ List.length _; simp))) ALeL.refl (c_named m c.rule) rfl ?_) | (change vcFun _ _ _ _ _; refine call_eq rfl (by repeat' (first | trivial | refine And.intro ?_ ?_ | (show 0 + _ ≤ List.length _; simp))) ALeL.refl (c_cost c.penalty) rfl ?_) | fail)
  all_goals first
    | (refine congrArg vbool (pB_f fun h => ?_).symm; obtain ⟨g1, g2, g3, g4, g5⟩ := h; first | exact absurd g1 (by assumption) | exact absurd g4 (by assumption) | omega)
    | skip
  refine loop_at (fun i : Nat => [(31, vint .i64 i)]) (fun _ => []) (fun i => i ≤ c.loads.length ∧ ∀ j, j < i → loadAt m c.loads j) (fun i => c.loads.length - i) 0 ⟨by omega, fun j hj => by omega⟩ (by repeat' (first | exact trivial | exact ⟨_, rfl, ALe.refl⟩ | refine And.intro ?_ ?_)) (by repeat' (first | exact trivial | exact rfl | refine And.intro ?_ ?_)) ?_
  intro i ⟨hi, hall⟩
  rcases Nat.lt_or_ge i c.loads.length with hlt | hge
  · obtain ⟨x, hx⟩ := getE hlt
    rcases i with _ | k
    · have hz := load_zero (m := m) hx
      repeat' (first | (refine idx_sl (k := 0) (at_map hx) (by omega) ?_) | refine o1 ?_ | refine o2 ?_ | refine k1 ?_ | refine k2 ?_ | refine k3 ?_ | refine k4 ?_ | refine k6 ?_ | refine k7 ?_ | refine k8 ?_ | refine And.intro ?_ ?_ | refine o3 ?_ | refine o4 ?_ | (intro h; first | exact Bool.noConfusion h | exact nz _ h | exact nl h | (simp at h; done) | (simp at h; first | (exfalso; omega) | skip) | skip) | (change retOk _ _ _ _; refine ret_pure rfl trivial ?_) | exact (by kernel_rfl : drawOk _ _ = true) | refine eqv_wrap (by omega) (by omega) ?_ | (change vcFun _ _ _ _ _; refine call_eq rfl (by repeat' (first | trivial | refine And.intro ?_ ?_ | (show 0 + _ ≤ List.length _; simp))) ALeL.refl (c_option m x.cls x.opt) rfl ?_) | fail)
      all_goals first
        | (refine congrArg vbool (pB_f fun h => ?_).symm; obtain ⟨g1, g2, g3⟩ := hz.1 (h.2.2.2.2 _ hlt); first | exact absurd g1 (by assumption) | omega)
        | exact ⟨1, ⟨by omega, all_lt_succ hall (hz.2 ⟨by assumption, by omega, by omega⟩)⟩, by omega, back [0, 1] rfl rfl ⟨rfl, rfl, trivial⟩ (by repeat' (first | exact trivial | exact rfl | refine And.intro ?_ ?_))⟩
        | (exfalso; simp_all; done)
        | (exfalso; omega)
    · obtain ⟨y, hy⟩ := getE (show k < c.loads.length by omega)
      have hz := load_next (m := m) hx hy
      repeat' (first | (refine idx_sl (k := k + 1) (at_map hx) (by omega) ?_) | (refine idx_sl (k := k) (at_map hy) (by omega) ?_) | refine o1 ?_ | refine o2 ?_ | refine k1 ?_ | refine k2 ?_ | refine k3 ?_ | refine k4 ?_ | refine k6 ?_ | refine k7 ?_ | refine And.intro ?_ ?_ | refine o3 ?_ | refine o4 ?_ | (intro h; first | exact Bool.noConfusion h | exact nz _ h | exact nl h | (simp at h; done) | (simp at h; first | (exfalso; omega) | skip) | skip) | (change retOk _ _ _ _; refine ret_pure rfl trivial ?_) | exact (by kernel_rfl : drawOk _ _ = true) | refine eqv_wrap (by omega) (by omega) ?_ | (change vcFun _ _ _ _ _; refine call_eq rfl (by repeat' (first | trivial | refine And.intro ?_ ?_ | (show 0 + _ ≤ List.length _; simp))) ALeL.refl (c_option m x.cls x.opt) rfl ?_) | (change vcFunD _ _ _ _ _; refine callD_eq rfl (by repeat' (first | trivial | refine And.intro ?_ ?_ | (show 0 + _ ≤ List.length _; simp))) ALeL.refl (c_cmp _ _) rfl ?_) | (change vcFunD _ _ _ _ _; refine callD_eq rfl (by repeat' (first | trivial | refine And.intro ?_ ?_ | (show 0 + _ ≤ List.length _; simp))) ALeL.refl (c_or [cmpI y.cls x.cls, cmpI y.opt x.opt] (Nat.le_of_ble_eq_true rfl)) rfl ?_) | fail)
      all_goals first
        | (refine congrArg vbool (pB_f fun h => ?_).symm; obtain ⟨g1, g2, g3, g4⟩ := hz.1 (h.2.2.2.2 _ hlt); first | exact absurd g1 (by assumption) | omega | exact absurd g4 (load_cmp2.1 (by assumption)) | (unfold loadLt at g4; omega))
        | exact ⟨k + 2, ⟨by omega, all_lt_succ hall (hz.2 ⟨by assumption, by omega, by omega, by first | exact load_cmp.1 (by omega) | (unfold loadLt; omega)⟩)⟩, by omega, back [0, 1] rfl rfl ⟨rfl, rfl, trivial⟩ (by repeat' (first | exact trivial | exact rfl | refine And.intro ?_ ?_))⟩
        | (exfalso; omega)
  · repeat' (first | refine o1 ?_ | refine o2 ?_ | refine k1 ?_ | refine k2 ?_ | refine k3 ?_ | refine k7 ?_ | refine k8 ?_ | refine And.intro ?_ ?_ | (intro h; first | exact Bool.noConfusion h | exact nz _ h | exact nl h | (simp at h; done) | (simp at h; first | (exfalso; omega) | skip) | skip) | (change retOk _ _ _ _; refine ret_pure rfl trivial ?_) | fail)
    all_goals first
      | exact congrArg vbool (pB_t ⟨by assumption, by omega, by omega, by assumption, fun j hj => hall j (by omega)⟩).symm
end Go.Proofs.YtpnghlibmpainaaGreat.Cw

/-
  Contracts: valid models.
-/
namespace Go.Proofs.YtpnghlibmpainaaGreat.Cw
open Go.Cw Go.Proofs
set_option linter.unusedVariables false
set_option maxRecDepth 100000
set_option maxHeartbeats 1600000

theorem c_valid1 (m : Model) (o : Opt) (ho : o.charges.length ≤ 9223372036854775807) : PCall Tryz.prog 55 [ag o.row, .pv (.ia m.cells)] (fun r => r = vbool (pB (¬ chargesP m o))) := by
  refine acall_of tok mixed 8 rfl (fn := Tryz.f55) (c := Tryz.f55.body.getD .skip) (by kernel_rfl) (by kernel_rfl) (by kernel_rfl) rfl 0 rfl ?_
  repeat' (first | refine o1 ?_ | refine o2 ?_ | refine k1 ?_ | refine k2 ?_ | refine k7 ?_ | (change retOk _ _ _ _; refine ret_pure rfl trivial ?_) | (change vcFun _ _ _ _ _; refine call_eq rfl (by repeat' (first | trivial | refine And.intro ?_ ?_ | (show 0 + _ ≤ List.length _; simp))) ALeL.refl (c_charged m o ho) rfl ?_) | fail)
  all_goals first
    | exact congrArg vbool (pB_eq (by simp))
theorem c_valid2 (m : Model) (c : Count) (hc : c.loads.length ≤ 9223372036854775807) : PCall Tryz.prog 60 [ag c.row, .pv (.ia m.cells)] (fun r => r = vbool (pB (¬ countP_ m c))) := by
  refine acall_of tok mixed 8 rfl (fn := Tryz.f60) (c := Tryz.f60.body.getD .skip) (by kernel_rfl) (by kernel_rfl) (by kernel_rfl) rfl 0 rfl ?_
  repeat' (first | refine o1 ?_ | refine o2 ?_ | refine k1 ?_ | refine k2 ?_ | refine k7 ?_ | (change retOk _ _ _ _; refine ret_pure rfl trivial ?_) | (change vcFun _ _ _ _ _; refine call_eq rfl (by repeat' (first | trivial | refine And.intro ?_ ?_ | (show 0 + _ ≤ List.length _; simp))) ALeL.refl (c_counted m c hc) rfl ?_) | fail)
  all_goals first
    | exact congrArg vbool (pB_eq (by simp))
theorem good_c {m : Model} (g : goodP m) {i : Nat} {l : List Opt} (hl : m.classes[i]? = some l) : ∀ o ∈ l, chargesP m o := g.1 l (List.mem_of_getElem? hl)
theorem c_valid (m : Model) (hl : Laid m) : PCall Tryz.prog 23 [ag m.cells] (fun r => r = vint .i64 (modelE m)) := by
  by_cases hz : sizedP m
  · refine acall_of tok mixed 52 rfl (fn := Tryz.f23) (c := Tryz.f23.body.getD .skip) (by kernel_rfl) (by kernel_rfl) (by kernel_rfl) rfl 0 rfl ?_
    have hcn := hz.1
    have hpn := hz.2.2.1
    have hon := hz.2.2.2.1
    repeat' (first | refine o1 ?_ | refine o2 ?_ | refine k1 ?_ | refine k2 ?_ | refine k3 ?_ | refine k4 ?_ | refine k6 ?_ | refine k7 ?_ | refine And.intro ?_ ?_ | (intro h; first | exact Bool.noConfusion h | exact nz _ h | exact nl h | (simp at h; done) | (simp at h; first | (exfalso; omega) | skip) | skip) | (change retOk _ _ _ _; refine ret_pure rfl trivial ?_) | refine eqv_len_map ?_ | (change vcFun _ _ _ _ _; refine call_eq rfl (by repeat' (first | trivial | refine And.intro ?_ ?_ | (show 0 + _ ≤ List.length _; simp))) ALeL.refl (c_large m) rfl ?_) | fail)
    all_goals first
      | (exfalso; exact (by assumption : ¬ sizedP m) hz)
      | skip
    refine loop_at (fun i : Nat => [(12, vint .i64 i)]) (fun _ => []) (fun i => i ≤ m.classes.length ∧ ∀ j, j < i → ∀ l, m.classes[j]? = some l → ∀ o ∈ l, chargesP m o) (fun i => m.classes.length - i) 0 ⟨by omega, fun j hj => by omega⟩ (by repeat' (first | exact trivial | exact ⟨_, rfl, ALe.refl⟩ | refine And.intro ?_ ?_)) (by repeat' (first | exact trivial | exact rfl | refine And.intro ?_ ?_)) ?_
    intro i ⟨hi, hall⟩
    rcases Nat.lt_or_ge i m.classes.length with hlt | hge
    · obtain ⟨l, hl1⟩ := getE hlt
      have hll := hz.2.1 l (List.mem_of_getElem? hl1)
      repeat' (first | refine o1 ?_ | refine o2 ?_ | refine k1 ?_ | refine k2 ?_ | refine k3 ?_ | refine k4 ?_ | refine k6 ?_ | refine k7 ?_ | refine And.intro ?_ ?_ | (intro h; first | exact Bool.noConfusion h | exact nz _ h | exact nl h | (simp at h; done) | (simp at h; first | (exfalso; omega) | skip) | skip) | (change retOk _ _ _ _; refine ret_pure rfl trivial ?_) | refine eqv_wrap (by omega) (by omega) ?_ | refine ⟨_, _, (by first | rfl | assumption), at_map (by assumption), ?_⟩ | (change vcFun _ _ _ _ _; refine call_eq rfl (by repeat' (first | trivial | refine And.intro ?_ ?_ | (show 0 + _ ≤ List.length _; simp))) ALeL.refl (c_any_opt l 55 [.ia m.cells] (fun o => pB (¬ chargesP m o)) (by omega) (fun o ho => c_valid1 m o (hl.ch l (List.mem_of_getElem? hl1) o ho))) rfl ?_) | fail)
      all_goals first
        | (refine congrArg (vint .i64) (mE1 hz fun g => ?_).symm; obtain ⟨o, ho, hno⟩ := (by assumption : ∃ x, x ∈ l ∧ ¬ chargesP m x); exact hno (good_c g hl1 o ho))
        | exact ⟨i + 1, ⟨by omega, all_lt_succ hall fun l' h' => by rw [hl1] at h'; cases h'; assumption⟩, by omega, back [0] rfl rfl ⟨rfl, trivial⟩ (by repeat' (first | exact trivial | exact rfl | refine And.intro ?_ ?_))⟩
    · have hch : ∀ l ∈ m.classes, ∀ o ∈ l, chargesP m o := fun l hl => by
        obtain ⟨j, hj⟩ := List.getElem?_of_mem hl
        exact hall j (by have := (List.getElem?_eq_some_iff.1 hj).1; omega) l hj
      repeat' (first | refine o1 ?_ | refine o2 ?_ | refine k1 ?_ | refine k2 ?_ | refine k3 ?_ | refine k4 ?_ | refine k8 ?_ | refine And.intro ?_ ?_ | (intro h; first | exact Bool.noConfusion h | exact nz _ h | exact nl h | (simp at h; done) | (simp at h; first | (exfalso; omega) | skip) | skip) | refine eqv_len_map ?_ | fail)
      refine loop_at (fun i : Nat => [(23, vint .i64 i)]) (fun _ => []) (fun i => i ≤ m.pairs.length ∧ ∀ j, j < i → pairAt m j) (fun i => m.pairs.length - i) 0 ⟨by omega, fun j hj => by omega⟩ (by repeat' (first | exact trivial | exact ⟨_, rfl, ALe.refl⟩ | refine And.intro ?_ ?_)) (by repeat' (first | exact trivial | exact rfl | refine And.intro ?_ ?_)) ?_
      intro i ⟨hi, hall2⟩
      rcases Nat.lt_or_ge i m.pairs.length with hlt | hge
      · obtain ⟨p, hp⟩ := getE hlt
        rcases i with _ | k
        · have hpz := pairAt_zero hp
          repeat' (first | (refine idx_sl (k := 0) (at_map hp) (by omega) ?_) | refine o1 ?_ | refine o2 ?_ | refine k1 ?_ | refine k2 ?_ | refine k3 ?_ | refine k4 ?_ | refine k6 ?_ | refine k7 ?_ | refine k8 ?_ | refine And.intro ?_ ?_ | refine o3 ?_ | refine o4 ?_ | (intro h; first | exact Bool.noConfusion h | exact nz _ h | exact nl h | (simp at h; done) | (simp at h; first | (exfalso; omega) | skip) | skip) | (change retOk _ _ _ _; refine ret_pure rfl trivial ?_) | exact (by kernel_rfl : drawOk _ _ = true) | refine eqv_wrap (by omega) (by omega) ?_ | (change vcFunD _ _ _ _ _; refine callD_eq rfl (by repeat' (first | trivial | refine And.intro ?_ ?_ | (show 0 + _ ≤ List.length _; simp))) ALeL.refl (c_paired m p hz) rfl ?_) | fail)
          all_goals first
            | (refine congrArg (vint .i64) (mE1 hz fun g => ?_).symm; exact absurd (hpz.1 (g.2.1 _ hlt)) (by assumption))
            | exact ⟨1, ⟨by omega, all_lt_succ hall2 (hpz.2 (by assumption))⟩, by omega, back [0] rfl rfl ⟨rfl, trivial⟩ (by repeat' (first | exact trivial | exact rfl | refine And.intro ?_ ?_))⟩
            | (exfalso; simp_all; done)
        · obtain ⟨q, hq⟩ := getE (show k < m.pairs.length by omega)
          have hpz := pairAt_next hp hq
          repeat' (first | (refine idx_sl (k := k + 1) (at_map hp) (by omega) ?_) | (refine idx_sl (k := k) (at_map hq) (by omega) ?_) | refine o1 ?_ | refine o2 ?_ | refine k1 ?_ | refine k2 ?_ | refine k3 ?_ | refine k4 ?_ | refine k6 ?_ | refine k7 ?_ | refine And.intro ?_ ?_ | refine o3 ?_ | refine o4 ?_ | (intro h; first | exact Bool.noConfusion h | exact nz _ h | exact nl h | (simp at h; done) | (simp at h; first | (exfalso; omega) | skip) | skip) | (change retOk _ _ _ _; refine ret_pure rfl trivial ?_) | exact (by kernel_rfl : drawOk _ _ = true) | refine eqv_wrap (by omega) (by omega) ?_ | (change vcFunD _ _ _ _ _; refine callD_eq rfl (by repeat' (first | trivial | refine And.intro ?_ ?_ | (show 0 + _ ≤ List.length _; simp))) ALeL.refl (c_paired m p hz) rfl ?_) | (change vcFunD _ _ _ _ _; refine callD_eq rfl (by repeat' (first | trivial | refine And.intro ?_ ?_ | (show 0 + _ ≤ List.length _; simp))) ALeL.refl (c_order q p) rfl ?_) | fail)
          all_goals first
            | (refine congrArg (vint .i64) (mE1 hz fun g => ?_).symm; have g1 := hpz.1 (g.2.1 _ hlt); first | exact absurd g1.1 (by assumption) | (have := pair_cmp.2 g1.2; omega))
            | exact ⟨k + 2, ⟨by omega, all_lt_succ hall2 (hpz.2 ⟨by assumption, pair_cmp.1 (by omega)⟩)⟩, by omega, back [0] rfl rfl ⟨rfl, trivial⟩ (by repeat' (first | exact trivial | exact rfl | refine And.intro ?_ ?_))⟩
      · have hpa : ∀ i, i < m.pairs.length → pairAt m i := fun j hj => hall2 j (by omega)
        repeat' (first | refine o1 ?_ | refine o2 ?_ | refine k1 ?_ | refine k2 ?_ | refine k3 ?_ | refine k6 ?_ | refine k7 ?_ | refine k8 ?_ | refine And.intro ?_ ?_ | (intro h; first | exact Bool.noConfusion h | exact nz _ h | exact nl h | (simp at h; done) | (simp at h; first | (exfalso; omega) | skip) | skip) | (change retOk _ _ _ _; refine ret_pure rfl trivial ?_) | (change vcFun _ _ _ _ _; refine call_eq rfl (by repeat' (first | trivial | refine And.intro ?_ ?_ | (show 0 + _ ≤ List.length _; simp))) ALeL.refl (c_any_count m.counts 60 [.ia m.cells] (fun c => pB (¬ countP_ m c)) (by omega) (fun c hc => c_valid2 m c (hl.ld c hc))) rfl ?_) | fail)
        all_goals first
          | (refine congrArg (vint .i64) (mE1 hz fun g => ?_).symm; obtain ⟨c, hc, hno⟩ := (by assumption : ∃ x, x ∈ m.counts ∧ ¬ countP_ m x); exact hno (g.2.2 c hc))
          | exact congrArg (vint .i64) (mE0 hz ⟨hch, hpa, by assumption⟩).symm
  · refine acall_of tok mixed 52 rfl (fn := Tryz.f23) (c := Tryz.f23.body.getD .skip) (by kernel_rfl) (by kernel_rfl) (by kernel_rfl) rfl 0 rfl ?_
    repeat' (first | refine o1 ?_ | refine o2 ?_ | refine k1 ?_ | refine k2 ?_ | refine k3 ?_ | refine k4 ?_ | refine k6 ?_ | refine k7 ?_ | refine And.intro ?_ ?_ | (intro h; first | exact Bool.noConfusion h | exact nz _ h | exact nl h | (simp at h; done) | (simp at h; first | (exfalso; omega) | skip) | skip) | (change retOk _ _ _ _; refine ret_pure rfl trivial ?_) | refine eqv_len_map ?_ | (change vcFun _ _ _ _ _; refine call_eq rfl (by repeat' (first | trivial | refine And.intro ?_ ?_ | (show 0 + _ ≤ List.length _; simp))) ALeL.refl (c_large m) rfl ?_) | fail)
    all_goals first
      | exact congrArg (vint .i64) (mE2 hz).symm
      | (exfalso; exact hz (by assumption))
end Go.Proofs.YtpnghlibmpainaaGreat.Cw

/-
  Contracts: dice.
-/
namespace Go.Proofs.YtpnghlibmpainaaGreat.Cw
open Go.Cw Go.Proofs
set_option linter.unusedVariables false
set_option maxRecDepth 100000

def modI (a m : Int) : Int := if m < 1 then 0 else a % m

theorem tmod_mod {a m : Int} (h : 1 ≤ m) : (if a.tmod m < 0 then a.tmod m + m else a.tmod m) = a % m := by
  rw [Int.tmod_eq_emod]
  have h1 := Int.emod_nonneg a (show m ≠ 0 by omega)
  have h2 := Int.emod_lt_of_pos a (show 0 < m by omega)
  split
  · simp only [Int.ofNat_zero, Int.sub_zero]; rw [if_neg (by omega)]
  · rename_i h3
    have : (m.natAbs : Int) = m := by omega
    rw [this, if_pos (by omega)]; omega

theorem c_mod (a m : Int) (hm : m ≤ 9223372036854775807) : PCall Tryz.prog 14 [vint .i64 a, vint .i64 m] (fun r => r = vint .i64 (modI a m)) := by
  refine acall_of tok mixed 16 rfl (fn := Tryz.f14) (c := Tryz.f14.body.getD .skip) (by kernel_rfl) (by kernel_rfl) (by kernel_rfl) rfl 0 rfl ?_
  repeat' (first | refine o1 ?_ | refine o2 ?_ | refine k1 ?_ | refine k2 ?_ | refine k3 ?_ | refine k6 ?_ | refine k7 ?_ | refine And.intro ?_ ?_ | (intro h; first | exact Bool.noConfusion h | exact nz _ h | exact nl h | (simp at h; done) | (simp at h; first | (exfalso; omega) | skip) | skip) | (change retOk _ _ _ _; refine ret_pure rfl trivial ?_) | fail)
  case' refine_2.refine_2 =>
    have ht := tmod_mod (a := a) (m := m) (by omega)
    have h1 := Int.emod_nonneg a (show m ≠ 0 by omega)
    have h2 := Int.emod_lt_of_pos a (show 0 < m by omega)
    refine eqv_rfl ?_
    generalize a.tmod m = q at *
    have hq : q < 0 → q + m = a % m := fun h => by rw [if_pos h] at ht; exact ht
    repeat' (first | refine o1 ?_ | refine o2 ?_ | refine k1 ?_ | refine k2 ?_ | refine k3 ?_ | refine k6 ?_ | refine k7 ?_ | refine And.intro ?_ ?_ | (intro h; first | exact Bool.noConfusion h | exact nz _ h | exact nl h | (simp at h; done) | (simp at h; first | (exfalso; omega) | skip) | skip) | (change retOk _ _ _ _; refine ret_pure rfl trivial ?_) | refine eqv_wrap (by omega) (by omega) ?_ | fail)
  all_goals first
    | (exfalso; omega)
    | (refine congrArg (vint .i64) ?_; unfold modI; rw [if_neg (by omega)]; exact hq (by assumption))
    | (refine congrArg (vint .i64) ?_; unfold modI; rw [if_neg (by omega), ← ht, if_neg (by omega)])
    | (refine congrArg (vint .i64) ?_; unfold modI; rw [if_pos (by omega)])

def dice (t : List Int) (k : Nat) : Option AObj := some ⟨92, 2, false, .box [.pv (encInts t), vint .i64 k]⟩
def nextV (t : List Int) (k : Nat) (n : Int) : Int := match t[k]? with
  | some x => modI x n
  | none => 0
def nextK (t : List Int) (k : Nat) : Nat := if k < t.length then k + 1 else k

theorem nextV_range (t : List Int) (k : Nat) {n : Int} (h : 1 ≤ n) : 0 ≤ nextV t k n ∧ nextV t k n < n := by
  unfold nextV
  split
  · unfold modI; rw [if_neg (by omega)]; exact ⟨Int.emod_nonneg _ (by omega), Int.emod_lt_of_pos _ (by omega)⟩
  · omega

theorem c_next (t : List Int) (k : Nat) (n : Int) (ht : t.length ≤ 400) (hk : k ≤ t.length) (hn : n ≤ 9223372036854775807) :
    ACall Tryz.prog 28 [.ptr 0 2 0 0, vint .i64 n] [dice t k] (fun r H' => r = vint .i64 (nextV t k n) ∧ H' = [dice t (nextK t k)]) := by
  refine acall_of tok mixed 35 rfl (fn := Tryz.f28) (c := Tryz.f28.body.getD .skip) (by kernel_rfl) (by kernel_rfl) (by kernel_rfl) rfl 1 rfl ?_
  repeat' (first | refine o1 ?_ | refine o2 ?_ | refine k1 ?_ | refine k2 ?_ | refine k3 ?_ | refine k6 ?_ | refine k7 ?_ | refine And.intro ?_ ?_ | refine o3 ?_ | refine o4 ?_ | (intro h; first | exact Bool.noConfusion h | exact nz _ h | exact nl h | (simp at h; done) | (simp at h; first | (exfalso; omega) | skip) | skip) | exact (by kernel_rfl : drawOk _ _ = true) | refine eqv_len_map ?_ | refine eqv_wrap (by omega) (by omega) ?_ | fail)
  case' refine_1 =>
    refine ret_obj [0] [dice t (nextK t k)] rfl rfl ⟨(by rw [nextK, if_neg (by omega)]; rfl), trivial⟩ (r' := vint .i64 0) rfl ⟨?_, rfl⟩
    simp [nextV, List.getElem?_eq_none h]
  case' refine_2 =>
    obtain ⟨x, hx⟩ := getE h
    repeat' (first | refine o3 ?_ | refine idx_sl (at_map (by assumption)) (by omega) ?_ | fail)
    change vcFunD _ _ _ _ _
    refine callD_eq rfl (by repeat' (first | trivial)) ALeL.refl (c_mod x n hn) rfl ?_
    repeat' (first | refine k7 ?_ | refine And.intro ?_ ?_ | refine o3 ?_ | refine o4 ?_ | exact (by kernel_rfl : drawOk _ _ = true) | fail)
    refine ret_obj [0] [dice t (nextK t k)] rfl rfl ⟨(by rw [nextK, if_pos h]; rfl), trivial⟩ (r' := vint .i64 (modI x n)) rfl ⟨?_, rfl⟩
    simp [nextV, hx]

theorem c_one (t : List Int) (k : Nat) (n : Int) (ht : t.length ≤ 400) (hk : k ≤ t.length) (hn : n ≤ 9223372036854775807) (hn1 : 1 ≤ n) :
    ACall Tryz.prog 36 [.ptr 0 2 0 0, vint .i64 n] [dice t k] (fun r H' => r = vbool (decide (nextV t k n = n - 1)) ∧ H' = [dice t (nextK t k)]) := by
  refine acall_of tok mixed 11 rfl (fn := Tryz.f36) (c := Tryz.f36.body.getD .skip) (by kernel_rfl) (by kernel_rfl) (by kernel_rfl) rfl 1 rfl ?_
  repeat' (first | refine o1 ?_ | refine o2 ?_ | refine k1 ?_ | refine k2 ?_ | fail)
  change vcFun _ _ _ _ _
  refine call_obj [0] [dice t k] [.ptr 0 2 0 0, vint .i64 n] rfl ⟨rfl, trivial⟩ rfl (c_next t k n ht hk hn) ?_
  rintro r H' ⟨rfl, rfl⟩
  repeat' (first | refine o1 ?_ | refine o2 ?_ | refine k7 ?_ | refine And.intro ?_ ?_ | exact Nat.le_of_ble_eq_true rfl | refine eqv_wrap (by omega) (by omega) ?_ | fail)
  refine ret_obj [0] [dice t (nextK t k)] rfl rfl ⟨rfl, trivial⟩ (r' := vbool (decide (nextV t k n = n - 1))) rfl ⟨rfl, rfl⟩

def Nxt (t : List Int) (k : Nat) (n v : Int) (k2 : Nat) : Prop := ACall Tryz.prog 28 [.ptr 0 2 0 0, vint .i64 n] [dice t k] (fun r H' => r = vint .i64 v ∧ H' = [dice t k2])
theorem nextK_le {t : List Int} {k : Nat} (h : k ≤ t.length) : nextK t k ≤ t.length := by unfold nextK; split <;> omega

theorem next_ex (t : List Int) (k : Nat) (n : Int) (ht : t.length ≤ 400) (hk : k ≤ t.length) (hn : n ≤ 9223372036854775807) (h1 : 1 ≤ n) :
    ∃ v k2, 0 ≤ v ∧ v < n ∧ k2 ≤ t.length ∧ Nxt t k n v k2 :=
  ⟨_, _, (nextV_range t k h1).1, (nextV_range t k h1).2, nextK_le hk, c_next t k n ht hk hn⟩

def One (t : List Int) (k : Nat) (n : Int) (b : Bool) (k2 : Nat) : Prop := ACall Tryz.prog 36 [.ptr 0 2 0 0, vint .i64 n] [dice t k] (fun r H' => r = vbool b ∧ H' = [dice t k2])
theorem one_ex (t : List Int) (k : Nat) (n : Int) (ht : t.length ≤ 400) (hk : k ≤ t.length) (hn : n ≤ 9223372036854775807) (h1 : 1 ≤ n) :
    ∃ b k2, k2 ≤ t.length ∧ One t k n b k2 :=
  ⟨_, _, nextK_le hk, c_one t k n ht hk hn h1⟩
theorem c_roll (t : List Int) : ACall Tryz.prog 11 [.pv (encInts t)] [] (fun r H' => r = .ptr 0 2 0 0 ∧ H' = [dice t 0]) := by
  refine acall_of tok mixed 6 rfl (fn := Tryz.f11) (c := Tryz.f11.body.getD .skip) (by kernel_rfl) (by kernel_rfl) (by kernel_rfl) rfl 0 rfl ?_
  repeat' (first | refine o1 ?_ | refine o2 ?_ | refine k1 ?_ | refine k2 ?_ | refine k7 ?_ | fail)
  refine ret_obj [0] [dice t 0] rfl rfl ⟨rfl, trivial⟩ (r' := .ptr 0 2 0 0) rfl ⟨rfl, rfl⟩

theorem c_light (t : List Int) : PCall Tryz.prog 8 [.pv (encInts t)] (fun r => r = vbool (decide (t.length ≤ 400))) := by
  refine acall_of tok mixed 6 rfl (fn := Tryz.f8) (c := Tryz.f8.body.getD .skip) (by kernel_rfl) (by kernel_rfl) (by kernel_rfl) rfl 0 rfl ?_
  repeat' (first | refine o1 ?_ | refine o2 ?_ | refine k1 ?_ | refine k2 ?_ | refine k7 ?_ | (change retOk _ _ _ _; refine ret_pure rfl trivial ?_) | refine eqv_len_map ?_ | fail)
  refine congrArg vbool ?_
  simp; omega

end Go.Proofs.YtpnghlibmpainaaGreat.Cw

/-
  Dice: calls in walks.
-/
namespace Go.Proofs.YtpnghlibmpainaaGreat.Cw
open Go.Cw Go.Proofs
set_option linter.unusedVariables false
set_option maxRecDepth 100000

section
variable {t : List Int} {k : Nat} {n : Int} {H : Heap} (i : Nat)
theorem call_next {K : AV → Heap → Prop} (hi : H[i]? = some (dice t k)) (ht : t.length ≤ 400) (hk : k ≤ t.length) (h1 : 1 ≤ n) (hn : n ≤ 9223372036854775807)
    (hK : ∀ v k2, 0 ≤ v → v < n → k2 ≤ t.length → K (vint .i64 v) (H.set i (dice t k2))) : vcFun Tryz.prog 28 [.ptr i 2 0 0, vint .i64 n] H K := by
  obtain ⟨v, k2, a, b, c, hn⟩ := next_ex t k n ht hk hn h1
  refine call_one (i := i) hi (fun _ _ => rfl) [.ptr 0 2 0 0, vint .i64 n] rfl hn ?_
  rintro r H' ⟨rfl, rfl⟩
  exact ⟨_, rfl, fun _ _ => rfl, fun _ _ => rfl, hK v k2 a b c⟩
theorem call_one2 {K : AV → Heap → Prop} (hi : H[i]? = some (dice t k)) (ht : t.length ≤ 400) (hk : k ≤ t.length) (h1 : 1 ≤ n) (hn : n ≤ 9223372036854775807)
    (hK : ∀ b k2, k2 ≤ t.length → K (vbool b) (H.set i (dice t k2))) : vcFun Tryz.prog 36 [.ptr i 2 0 0, vint .i64 n] H K := by
  obtain ⟨v, k2, c, hn⟩ := one_ex t k n ht hk hn h1
  refine call_one (i := i) hi (fun _ _ => rfl) [.ptr 0 2 0 0, vint .i64 n] rfl hn ?_
  rintro r H' ⟨rfl, rfl⟩
  exact ⟨_, rfl, fun _ _ => rfl, fun _ _ => rfl, hK v k2 c⟩
theorem callD_next {K : AV → Upd → List Nat → Prop} (hi : H[i]? = some (dice t k)) (ht : t.length ≤ 400) (hk : k ≤ t.length) (h1 : 1 ≤ n) (hn : n ≤ 9223372036854775807)
    (hK : ∀ v k2, 0 ≤ v → v < n → k2 ≤ t.length → K (vint .i64 v) [(i, dice t k2)] [i]) : vcFunD Tryz.prog 28 [.ptr i 2 0 0, vint .i64 n] H K := by
  obtain ⟨v, k2, a, b, c, hn⟩ := next_ex t k n ht hk hn h1
  exact callD_one (i := i) hi (fun _ _ => rfl) [.ptr 0 2 0 0, vint .i64 n] rfl hn (fun _ _ => rfl) (fun _ _ => rfl) (hK v k2 a b c)
theorem callD_one2 {K : AV → Upd → List Nat → Prop} (hi : H[i]? = some (dice t k)) (ht : t.length ≤ 400) (hk : k ≤ t.length) (h1 : 1 ≤ n) (hn : n ≤ 9223372036854775807)
    (hK : ∀ b k2, k2 ≤ t.length → K (vbool b) [(i, dice t k2)] [i]) : vcFunD Tryz.prog 36 [.ptr i 2 0 0, vint .i64 n] H K := by
  obtain ⟨v, k2, c, hn⟩ := one_ex t k n ht hk hn h1
  exact callD_one (i := i) hi (fun _ _ => rfl) [.ptr 0 2 0 0, vint .i64 n] rfl hn (fun _ _ => rfl) (fun _ _ => rfl) (hK v k2 c)
end

theorem bytes_one {v : Int} {n m : Nat} {K : Str → Prop} (h1 : 0 ≤ v) (h2 : v < 256) (hn : n = m) (h : ∀ s, s.size = 1 → K s) : ∃ b, List.take 1 (List.drop 0 [[PV.val (.int .u8 v)]]) = bytesRows b ∧ n = m ∧ K b := by
  refine ⟨⟨#[v.toNat.toUInt8]⟩, ?_, hn, h _ rfl⟩
  have : ((v.toNat.toUInt8.toNat : Nat) : Int) = v := by
    have : v.toNat.toUInt8.toNat = v.toNat := by simp [Nat.toUInt8]; omega
    omega
  show [[PV.val (.int .u8 v)]] = [[.val (.int .u8 ((v.toNat.toUInt8.toNat : Nat) : Int))]]
  rw [this]
end Go.Proofs.YtpnghlibmpainaaGreat.Cw

/-
  Odd times, odd rooms, odd examinations.
-/
namespace Go.Proofs.YtpnghlibmpainaaGreat.Cw
open Go.Cw Go.Proofs
set_option linter.unusedVariables false
set_option maxRecDepth 100000
set_option maxHeartbeats 1600000

/-- An index by a number of dice into a list that is written out. -/
theorem lit_idx {v : Int} {n : Nat} {K : Nat → Prop} (h1 : 0 ≤ v) (h2 : v < n) (h : ∀ k, k < n → K (0 + k)) : ∃ k : Nat, v = ↑k ∧ k < n ∧ eqv (0 + k) K :=
  ⟨v.toNat, by omega, by omega, _, rfl, h _ (by omega)⟩
def intRows : List (List PV) → Bool
  | [] => true
  | [.val (.int .i64 _)] :: l => intRows l
  | _ => false
theorem lit_ex : ∀ {L : List (List PV)} {k : Nat}, intRows L = true → k < L.length → ∃ x, L[k]? = some [ei x]
  | [], k, _, h => by simp at h
  | r :: l, 0, h, _ => by
    unfold intRows at h
    split at h
    · rename_i heq; cases heq
    · rename_i heq; cases heq; exact ⟨_, rfl⟩
    · cases h
  | r :: l, k + 1, h, hk => by
    unfold intRows at h
    split at h
    · rename_i heq; cases heq
    · rename_i heq; cases heq
      obtain ⟨x, hx⟩ := lit_ex (L := l) (k := k) h (by simpa using hk)
      exact ⟨x, by simpa using hx⟩
    · cases h
theorem lit_load {L : List (List PV)} {k n : Nat} {C : List PV → Prop} (hn : n = L.length) (hk : k < n) (hL : intRows L = true) (h : ∀ x : Int, C [ei x]) : ∃ r, L[0 + k]? = some r ∧ C r := by
  obtain ⟨x, hx⟩ := lit_ex hL (by omega : k < L.length)
  exact ⟨_, by rw [Nat.zero_add]; exact hx, h x⟩

/-- A pure result, as it is, and objects. -/
theorem ret_same {k : Nat} {r : AV} {H : Heap} {Post : AV → Heap → Prop} (rn : List Nat) (H' : Heap) (hd : allD rn = true) (ht : rn.take k = tabl 0 k) (hk : kept H H.length rn rn H') (hr : renC H.length rn r = r) (h : Post r H') : retOk k r H Post :=
  ret_obj rn H' hd ht hk hr.symm h

theorem c_oddtime (t : List Int) (k : Nat) (ht : t.length ≤ 400) (hk : k ≤ t.length) (x : Time) :
    ACall Tryz.prog 121 [.ptr 0 2 0 0, ag x.row] [dice t k] (fun r H' => ∃ (y : Time) (k' : Nat), k' ≤ t.length ∧ r = ag y.row ∧ H' = [dice t k']) := by
  refine acall_of tok mixed 38 rfl (fn := Tryz.f121) (c := Tryz.f121.body.getD .skip) (by kernel_rfl) (by kernel_rfl) (by kernel_rfl) rfl 1 rfl ?_
  repeat' (first | (refine lit_idx (by assumption) (by assumption) (fun kx hkx => ?_)) | (refine lit_load rfl (by assumption) rfl (fun y => ?_)) | refine o1 ?_ | refine o2 ?_ | refine k1 ?_ | refine k2 ?_ | refine k3 ?_ | refine k4 ?_ | refine k6 ?_ | refine k7 ?_ | refine k8 ?_ | refine And.intro ?_ ?_ | exact trivial | refine o3 ?_ | refine o4 ?_ | refine o5 ?_ | refine o6 ?_ | refine k5 ?_ | (intro h; first | exact Bool.noConfusion h | exact nz _ h | exact nl h | (simp at h; done) | (simp at h; first | (exfalso; omega) | skip) | skip) | (change retOk _ _ _ _; refine ret_pure rfl trivial ?_) | exact (rfl : allOne _ = true) | (refine (?_ : (0 : Int) ≤ _); omega) | (refine (?_ : _ ≠ _); omega) | (refine (?_ : srcLen _ = rowsLen _); rfl) | exact Nat.le_of_ble_eq_true rfl | exact (by kernel_rfl : drawOk _ _ = true) | refine eqv_len_map ?_ | refine eqv_size ?_ | refine eqv_put (eqv_ck ?_) | refine eqv_zero ?_ | refine eqv_wrap (by omega) (by omega) ?_ | refine eqv_u64 (by omega) (by omega) ?_ | refine eqv_u8 (by omega) (by omega) ?_ | refine eqv_to _ (set_map rfl rfl) ?_ | refine ⟨_, _, (by first | rfl | assumption), at_map (by assumption), ?_⟩ | refine ⟨_, _, (by first | rfl | assumption), (by assumption), ?_⟩ | refine ⟨_, at_map (by assumption), (by decide), ?_⟩ | refine ⟨_, at_map (by assumption), ?_⟩ | (refine (?_ : _ ≤ 140737488355328); simp [rowsLen] <;> omega) | (refine (?_ : _ ≤ 9223372036854775807); simp [rowsLen] <;> omega) | (refine (?_ : _ = rowsLen _); simp [rowsLen] <;> omega) | refine eqv_to _ (app_row rfl) (eqv_to _ app_len ?_) | refine eqv_to _ (app_first rfl) (eqv_to 1 rfl ?_) | refine idx_sl (at_map (by assumption)) (by omega) ?_ | refine idx_ms _ (by first | rfl | assumption) (by first | assumption | omega) ?_ | (change vcFun _ _ _ _ _; refine call_next 0 rfl (by assumption) (by assumption) (by omega) (by omega) ?_; intro v kq hv1 hv2 hkq) | (change vcFun _ _ _ _ _; refine call_one2 0 rfl (by assumption) (by assumption) (by omega) (by omega) ?_; intro bq kq hkq) | (change vcFunD _ _ _ _ _; refine callD_next 0 rfl (by assumption) (by assumption) (by omega) (by omega) ?_; intro v kq hv1 hv2 hkq) | (change vcFunD _ _ _ _ _; refine callD_one2 0 rfl (by assumption) (by assumption) (by omega) (by omega) ?_; intro bq kq hkq) | fail)
  all_goals first
    | exact ret_same [0] [dice t kq] rfl rfl ⟨rfl, trivial⟩ rfl ⟨⟨y, x.day, x.start, x.len⟩, kq, hkq, rfl, rfl⟩
    | exact ret_same [0] [dice t kq] rfl rfl ⟨rfl, trivial⟩ rfl ⟨⟨x.weeks, y, x.start, x.len⟩, kq, hkq, rfl, rfl⟩
    | exact ret_same [0] [dice t kq] rfl rfl ⟨rfl, trivial⟩ rfl ⟨⟨x.weeks, x.day, y, x.len⟩, kq, hkq, rfl, rfl⟩
    | exact ret_same [0] [dice t kq] rfl rfl ⟨rfl, trivial⟩ rfl ⟨⟨x.weeks, x.day, x.start, y⟩, kq, hkq, rfl, rfl⟩
end Go.Proofs.YtpnghlibmpainaaGreat.Cw

/-
  Made examinations.
-/
namespace Go.Proofs.YtpnghlibmpainaaGreat.Cw
open Go.Cw Go.Proofs
set_option linter.unusedVariables false
set_option maxRecDepth 100000
set_option maxHeartbeats 1600000

def z0 : AV := vint .i64 0
def rm0 (r : List PV) : Prop := ∃ c b s, r = [es c, es b, ei s, .val (.slice none 0 0), .val (.slice none 0 0)]
def zeroX : Option AObj := some ⟨33, 8, false, .box [nilA, nilA, nilA, z0, z0, z0, z0, z0]⟩

def roomR (r : List PV) : Prop := ∃ x : Room, PLeL r x.row
theorem rm0.room {r : List PV} (h : rm0 r) : roomR r := by
  obtain ⟨c, b, s, rfl⟩ := h
  exact ⟨⟨c, b, s, [], []⟩, PLe.refl, PLe.refl, PLe.refl, PLe.nil, PLe.nil, trivial⟩
theorem rooms_ex : ∀ {rs : List (List PV)}, (∀ r ∈ rs, roomR r) → ∃ l : List Room, PLeLL rs (l.map Room.row) ∧ l.length = rs.length
  | [], _ => ⟨[], trivial, rfl⟩
  | r :: rs, h => by
    obtain ⟨x, hx⟩ := h r (by simp)
    obtain ⟨l, hl, hn⟩ := rooms_ex (rs := rs) fun q hq => h q (by simp [hq])
    exact ⟨x :: l, ⟨hx, hl⟩, by simp [hn]⟩
theorem rooms_le {r : List PV} {rs : List (List PV)} (h : roomR r) (hs : ∀ q ∈ rs, rm0 q) : ∃ l : List Room, l.length = rs.length + 1 ∧ ALe (.pv (.sl 5 (List.take (rs.length + 1) (List.drop 0 (r :: rs))))) (.pv (encRooms l)) := by
  obtain ⟨l, hl, hn⟩ := rooms_ex (rs := r :: rs) fun q hq => by
    rcases List.mem_cons.1 hq with rfl | hq
    · exact h
    · exact (hs q hq).room
  refine ⟨l, hn, ALe.pv (PLe.sl ?_)⟩
  rw [List.drop_zero, List.take_of_length_le (by simp)]
  exact hl

def sitR (r : List PV) : Prop := ∃ x : Sitting, r = x.row
theorem sits_ex : ∀ {rs : List (List PV)}, (∀ r ∈ rs, sitR r) → ∃ l : List Sitting, rs = l.map Sitting.row
  | [], _ => ⟨[], rfl⟩
  | r :: rs, h => by
    obtain ⟨x, hx⟩ := h r (by simp)
    obtain ⟨l, hl⟩ := sits_ex (rs := rs) fun q hq => h q (by simp [hq])
    exact ⟨x :: l, by rw [hx, hl]; rfl⟩
theorem mem_app {α : Type} {l : List α} {q x : α} (h : q ∈ l ++ [x]) : q ∈ l ∨ q = x := by simpa using h
theorem c_made (t : List Int) (k : Nat) (ht : t.length ≤ 400) (hk : k ≤ t.length) :
    ACall Tryz.prog 24 [.ptr 0 2 0 0] [dice t k] (fun r H' => ∃ (x : Exams) (k' : Nat), k' ≤ t.length ∧ (x.rooms.length ≤ 5 ∧ x.exams.length ≤ 5 ∧ x.sits.length ≤ 5) ∧ r = ag x.cells ∧ H' = [dice t k']) := by
  refine acall_of tok mixed 160 rfl (fn := Tryz.f24) (c := Tryz.f24.body.getD .skip) (by kernel_rfl) (by kernel_rfl) (by kernel_rfl) rfl 1 rfl ?_
  repeat' (first | refine o1 ?_ | refine o2 ?_ | refine k1 ?_ | refine k2 ?_ | refine k4 ?_ | refine And.intro ?_ ?_ | exact (by kernel_rfl : drawOk _ _ = true) | refine eqv_wrap (by omega) (by omega) ?_ | (change vcFun _ _ _ _ _; refine call_next 0 rfl (by assumption) (by assumption) (by omega) (by omega) ?_; intro v kq hv1 hv2 hkq) | fail)
  refine loop_in (fun x : Nat × Nat × List (List PV) => [(4, vint .i64 x.1)]) (fun x => [dice t x.2.1, zeroX, some ⟨33, 8, false, .box [slP 3 5 x.2.2, nilA, nilA, z0, z0, z0, z0, z0]⟩, obP 72 5 x.2.2])
    (fun x => (x.1 + x.2.2.length ≤ 5 ∧ 1 ≤ x.1 + x.2.2.length) ∧ x.2.1 ≤ t.length ∧ ∀ r ∈ x.2.2, rm0 r) (fun x => x.1) ((1 + v).toNat, kq, []) ⟨by simp; omega, hkq, by simp⟩ ⟨?_, ?_⟩
  · exact back [0, 1, 2, 3] rfl rfl ⟨rfl, rfl, rfl, trivial⟩ ⟨slot_eq rfl (congrArg (vint .i64) (by show _ = (((1 + v).toNat : Nat) : Int); omega)), by repeat' (first | exact trivial | exact rfl | refine And.intro ?_ ?_)⟩
  rintro ⟨n, k, rs⟩ ⟨c1, c2, c3⟩
  rcases rs with _ | ⟨r, rs⟩
  · dsimp only [slP, obP, zeroX, nilA, z0, List.length_cons, List.length_nil] at c1 c2 c3 ⊢
    repeat' (first | (refine bytes_one (by omega) (by omega) rfl (fun s hs => ?_)) | ((show Nat.le (ByteArray.size _ + ByteArray.size _) _; rw [hs]; exact Nat.le_of_ble_eq_true rfl)) | refine o1 ?_ | refine o2 ?_ | refine k1 ?_ | refine k2 ?_ | refine k3 ?_ | refine k4 ?_ | refine k6 ?_ | refine And.intro ?_ ?_ | refine o3 ?_ | refine o4 ?_ | (intro h; first | exact Bool.noConfusion h | exact nz _ h | exact nl h | (simp at h; done) | (simp at h; first | (exfalso; omega) | skip) | skip) | (refine (?_ : srcLen _ = rowsLen _); rfl) | exact Nat.le_of_ble_eq_true rfl | exact (by kernel_rfl : drawOk _ _ = true) | refine eqv_wrap (by omega) (by omega) ?_ | refine eqv_u8 (by omega) (by omega) ?_ | refine eqv_to _ (app_first rfl) (eqv_to 1 rfl ?_) | (change vcFunD _ _ _ _ _; refine callD_next 0 rfl (by assumption) (by assumption) (by omega) (by omega) ?_; intro v kq hv1 hv2 hkq) | fail)
    all_goals first
      | (exfalso; omega)
      | exact ⟨(n - 1, kq, [_]), ⟨⟨by show n - 1 + 1 ≤ 5; omega, by show 1 ≤ n - 1 + 1; omega⟩, hkq, fun r hr => by rw [List.mem_singleton] at hr; subst hr; exact ⟨_, _, _, rfl⟩⟩, (by show n - 1 < n; omega), back [0, 1, 2, 6] rfl rfl ⟨rfl, rfl, rfl, rfl, trivial⟩ ⟨slot_eq rfl (congrArg (vint .i64) (by show _ = ((n - 1 : Nat) : Int); omega)), by repeat' (first | exact trivial | exact rfl | refine And.intro ?_ ?_)⟩⟩
  · dsimp only [slP, obP, zeroX, nilA, z0, List.length_cons, List.length_nil] at c1 c2 c3 ⊢
    rcases Nat.eq_zero_or_pos n with rfl | hn
    · obtain ⟨c, b, s, rfl⟩ := c3 r (by simp)
      repeat' (first | (refine join_in (a := .seq (.region 6 _ _) _) (fun _ => []) (fun x : Nat × List PV × List (List PV) => [dice t x.1, zeroX, some ⟨33, 8, false, .box [.ms 3 5 0 (x.2.2.length + 1), nilA, nilA, z0, z0, z0, z0, z0]⟩, some ⟨72, 5, false, .p (x.2.1 :: x.2.2)⟩]) (fun x => x.1 ≤ t.length ∧ (∃ c b s cl ts, x.2.1 = [es c, es b, ei s, .val (.slice none 0 0), cl] ∧ PLe cl (encTimes ts)) ∧ (∀ r ∈ x.2.2, rm0 r) ∧ x.2.2.length ≤ 4) ?_) | (refine ⟨0, rfl, Nat.succ_pos _, eqv_to 0 rfl ?_⟩) | (refine ⟨_, rfl, Nat.le_of_ble_eq_true rfl, eqv_rfl ?_⟩) | refine o1 ?_ | refine o2 ?_ | refine k1 ?_ | refine k2 ?_ | refine k3 ?_ | refine k6 ?_ | refine k8 ?_ | refine And.intro ?_ ?_ | refine o3 ?_ | refine o4 ?_ | (intro h; first | exact Bool.noConfusion h | exact nz _ h | exact nl h | (simp at h; done) | (simp at h; first | (exfalso; omega) | skip) | skip) | exact (by kernel_rfl : drawOk _ _ = true) | refine eqv_wrap (by omega) (by omega) ?_ | (change vcFun _ _ _ _ _; refine call_one2 0 rfl (by assumption) (by assumption) (by omega) (by omega) ?_; intro bq kq hkq) | (change vcFunD _ _ _ _ _; refine callD_next 0 rfl (by assumption) (by assumption) (by omega) (by omega) ?_; intro v kq hv1 hv2 hkq) | fail)
      all_goals first
        | exact ⟨(kq, [es c, es _, ei s, .val (.slice none 0 0), .val (.slice none 0 0)], rs), ⟨hkq, ⟨_, _, _, _, [], rfl, PLe.nil⟩, (fun r hr => c3 r (List.mem_cons_of_mem _ hr)), (by show rs.length ≤ 4; omega)⟩, back [0, 1, 2, 3] rfl rfl ⟨rfl, rfl, rfl, rfl, trivial⟩ (by repeat' (first | exact trivial | exact rfl | refine And.intro ?_ ?_))⟩
        | skip
      · rename_i w1 q1 a1 a2 a3 w2 q2 b1 b2 b3
        refine ⟨(kq, [es c, es b, ei s, .val (.slice none 0 0), .sl 4 [[ei (1 + w1), ei w2, ei v, ei 1]]], rs), ⟨hkq, ⟨_, _, _, _, [⟨1 + w1, w2, v, 1⟩], rfl, PLe.refl⟩, (fun r hr => c3 r (List.mem_cons_of_mem _ hr)), (by show rs.length ≤ 4; omega)⟩, Ghost.trans (Ghost.shut0 (i := 3) (c := 4) (r := [es c, es b, ei s, .val (.slice none 0 0), .val (.slice none 0 0)]) (xs := rs) (x := .ms 4 4 0 1) rfl rfl (Nat.le_of_ble_eq_true rfl) rfl (by repeat' (first | (show 0 + _ ≤ List.length _; simp))) ?_ ALe.refl) (back [0, 1, 2, 3] rfl rfl ⟨rfl, rfl, rfl, rfl, trivial⟩ (by repeat' (first | exact trivial | exact rfl | refine And.intro ?_ ?_)))⟩
        · show ¬ (3 ∈ ([4] : List Nat))
          decide
      refine ⟨?_⟩
      rintro ⟨k, r, rs⟩ ⟨c2, ⟨c, bl, s, cl, ts, e, hcl⟩, c3, c3n⟩
      dsimp only at c2 c3 c3n e ⊢
      subst e
      have hs1 : ∀ w : List PV, roomR w → ∃ l : List Room, l.length = rs.length + 1 ∧ ALe (.pv (.sl 5 (List.take (rs.length + 1) (List.drop 0 (w :: rs))))) (.pv (encRooms l)) := fun w hw => rooms_le hw c3
      repeat' (first | (refine join_in (a := .seq (.region 8 _ _) _) (fun _ => []) (fun x : Nat × List Room => [dice t x.1, zeroX, some ⟨33, 8, false, .box [.pv (encRooms x.2), nilA, nilA, z0, z0, z0, z0, z0]⟩]) (fun x => x.1 ≤ t.length ∧ x.2.length ≤ 5) ?_) | (refine ⟨0, rfl, Nat.succ_pos _, eqv_to 0 rfl ?_⟩) | (refine ⟨_, rfl, Nat.le_of_ble_eq_true rfl, eqv_rfl ?_⟩) | refine o1 ?_ | refine o2 ?_ | refine k1 ?_ | refine k2 ?_ | refine k3 ?_ | refine k6 ?_ | refine And.intro ?_ ?_ | (intro h; first | exact Bool.noConfusion h | exact nz _ h | exact nl h | (simp at h; done) | (simp at h; first | (exfalso; omega) | skip) | skip) | (change vcFun _ _ _ _ _; refine call_one2 0 rfl (by assumption) (by assumption) (by omega) (by omega) ?_; intro bq kq hkq) | fail)
      · obtain ⟨l, hn, hl⟩ := hs1 [es c, es bl, ei s, .sl 1 [[es _]], cl] ⟨⟨c, bl, s, [_], ts⟩, PLe.refl, PLe.refl, PLe.refl, PLe.refl, hcl, trivial⟩
        refine ⟨(kq, l), ⟨hkq, (by show l.length ≤ 5; omega)⟩, Ghost.trans (Ghost.shut0 (i := 3) (c := 3) (r := [es c, es bl, ei s, .val (.slice none 0 0), cl]) (xs := rs) (x := .ms 4 1 0 1) rfl rfl (Nat.le_of_ble_eq_true rfl) rfl (by repeat' (first | (show 0 + _ ≤ List.length _; simp))) ?_ ALe.refl) (Ghost.trans (Ghost.shut (i := 2) (c := 0) (x := .ms 3 5 0 (rs.length + 1)) rfl rfl rfl (by repeat' (first | (show 0 + _ ≤ List.length _; simp))) ?_ hl) (back [0, 1, 2] rfl rfl ⟨rfl, rfl, rfl, trivial⟩ (by repeat' (first | exact trivial | exact rfl | refine And.intro ?_ ?_))))⟩
        · show ¬ (3 ∈ ([4] : List Nat))
          decide
        · show ¬ (2 ∈ ([3] : List Nat))
          decide
      · obtain ⟨l, hn, hl⟩ := hs1 [es c, es bl, ei s, .val (.slice none 0 0), cl] ⟨⟨c, bl, s, [], ts⟩, PLe.refl, PLe.refl, PLe.refl, PLe.nil, hcl, trivial⟩
        refine ⟨(kq, l), ⟨hkq, (by show l.length ≤ 5; omega)⟩, Ghost.trans (Ghost.shut (i := 2) (c := 0) (x := .ms 3 5 0 (rs.length + 1)) rfl rfl rfl (by repeat' (first | (show 0 + _ ≤ List.length _; simp))) ?_ hl) (back [0, 1, 2] rfl rfl ⟨rfl, rfl, rfl, trivial⟩ (by repeat' (first | exact trivial | exact rfl | refine And.intro ?_ ?_)))⟩
        show ¬ (2 ∈ ([3] : List Nat))
        decide
      refine ⟨?_⟩
      rintro ⟨k, rl⟩ ⟨c2, crl⟩
      dsimp only at c2 crl ⊢
      repeat' (first | (refine join_in (a := .seq (.region 10 _ _) _) (fun _ => []) (fun x : Nat × List Exam => [dice t x.1, zeroX, some ⟨33, 8, false, .box [.pv (encRooms rl), .pv (.sl 4 (x.2.map Exam.row)), nilA, z0, z0, z0, z0, z0]⟩]) (fun x => x.1 ≤ t.length ∧ x.2.length ≤ 5) ?_) | refine o1 ?_ | refine o2 ?_ | refine k1 ?_ | refine k2 ?_ | refine k4 ?_ | refine And.intro ?_ ?_ | (change vcFun _ _ _ _ _; refine call_next 0 rfl (by assumption) (by assumption) (by omega) (by omega) ?_; intro v kq hv1 hv2 hkq) | fail)
      · refine loop_in (fun x : Nat × Nat × List Exam => [(5, vint .i64 x.1)]) (fun x => [dice t x.2.1, zeroX, some ⟨33, 8, false, .box [.pv (encRooms rl), slP 3 4 (x.2.2.map Exam.row), nilA, z0, z0, z0, z0, z0]⟩, obP 69 4 (x.2.2.map Exam.row)])
          (fun x => x.1 + x.2.2.length ≤ 5 ∧ x.2.1 ≤ t.length) (fun x => x.1) (v.toNat, kq, []) ⟨by simp; omega, hkq⟩ ⟨?_, ?_⟩
        · exact back [0, 1, 2, 3] rfl rfl ⟨rfl, rfl, rfl, trivial⟩ ⟨slot_eq rfl (congrArg (vint .i64) (by show _ = ((v.toNat : Nat) : Int); omega)), by repeat' (first | exact trivial | exact rfl | refine And.intro ?_ ?_)⟩
        rintro ⟨n, k, l⟩ ⟨c1, c2⟩
        rcases l with _ | ⟨e0, l⟩
        · have hlm : (([]).map Exam.row).length = ([]).length := List.length_map ..
          dsimp only [slP, obP, zeroX, nilA, z0, List.length_cons, List.length_nil, List.map] at c1 c2 hlm ⊢
          rcases Nat.eq_zero_or_pos n with rfl | hn
          · repeat' (first | refine o1 ?_ | refine o2 ?_ | refine k1 ?_ | refine k2 ?_ | refine k3 ?_ | refine k8 ?_ | refine And.intro ?_ ?_ | (intro h; first | exact Bool.noConfusion h | exact nz _ h | exact nl h | (simp at h; done) | (simp at h; first | (exfalso; omega) | skip) | skip) | fail)
            first
              | exact ⟨(k, []), ⟨c2, Nat.zero_le _⟩, Ghost.trans (Ghost.shut (i := 2) (c := 1) (x := .pv (.val (.slice none 0 0))) rfl rfl rfl (by repeat' (first | trivial)) (show ¬ (2 ∈ ([] : List Nat)) by decide) (ALe.pv PLe.nil)) (back [0, 1, 2] rfl rfl ⟨rfl, rfl, rfl, trivial⟩ (by repeat' (first | exact trivial | exact rfl | refine And.intro ?_ ?_)))⟩
              | (refine ⟨(k, []), ⟨c2, (by show List.length _ ≤ 5; simp only [List.length_cons]; omega)⟩, Ghost.trans (Ghost.shut (i := 2) (c := 1) (x := .ms 3 4 0 ((List.map Exam.row l).length + 1)) rfl rfl rfl (by skip) (show ¬ (2 ∈ ([3] : List Nat)) by decide) (ALe.pv (PLe.sl (?_ : PLeLL _ (([]).map Exam.row))))) (back [0, 1, 2] rfl rfl ⟨rfl, rfl, rfl, trivial⟩ (by skip))⟩
                 rw [List.drop_zero, List.take_of_length_le (by simp)]
                 exact PLeLL.refl)
          · repeat' (first | (refine bytes_one (by omega) (by omega) rfl (fun s hs => ?_)) | ((show Nat.le (ByteArray.size _ + ByteArray.size _) _; rw [hs]; exact Nat.le_of_ble_eq_true rfl)) | refine o1 ?_ | refine o2 ?_ | refine k1 ?_ | refine k2 ?_ | refine k3 ?_ | refine k4 ?_ | refine k6 ?_ | refine And.intro ?_ ?_ | refine o3 ?_ | refine o4 ?_ | (intro h; first | exact Bool.noConfusion h | exact nz _ h | exact nl h | (simp at h; done) | (simp at h; first | (exfalso; omega) | skip) | skip) | exact (by kernel_rfl : drawOk _ _ = true) | refine eqv_wrap (by omega) (by omega) ?_ | refine eqv_u8 (by omega) (by omega) ?_ | (change vcFunD _ _ _ _ _; refine callD_next 0 rfl (by assumption) (by assumption) (by omega) (by omega) ?_; intro v kq hv1 hv2 hkq) | fail)
            all_goals first
              | (exfalso; omega)
              | skip
            refine loop_in (fun x : Nat × Nat × List Str => [(7, vint .i64 x.1)]) (fun x => [dice t x.2.1, zeroX, some ⟨33, 8, false, .box [.pv (encRooms rl), slP 3 4 (([]).map Exam.row), nilA, z0, z0, z0, z0, z0]⟩, obP 69 4 (([]).map Exam.row), none, some ⟨69, 4, false, .box [.pv (es (ByteArray.mk #[69] ++ s)), vint .i64 (1 + v), nilA, slP 6 1 (x.2.2.map fun w => [es w])]⟩, obP 9 1 (x.2.2.map fun w => [es w])])
              (fun x => (x.1 ≤ 4 ∧ x.2.2.length ≤ x.1) ∧ x.2.1 ≤ t.length) (fun x => 4 - x.1) (0, kq, []) ⟨⟨by simp, by simp⟩, hkq⟩ ⟨?_, ?_⟩
            · exact back [0, 1, 2, 3, 4, 5, 6] rfl rfl (by repeat' (first | exact trivial | exact rfl | refine And.intro ?_ ?_)) (by repeat' (first | exact trivial | exact rfl | refine And.intro ?_ ?_))
            rintro ⟨i, k, ss⟩ ⟨c3, c4⟩
            rcases ss with _ | ⟨w0, ss⟩
            · dsimp only [slP, obP, zeroX, nilA, z0, List.length_cons, List.length_nil, List.map] at c3 c4 ⊢
              rcases Nat.lt_or_ge i 4 with hi | hi
              · repeat' (first | (refine bytes_one (by omega) (by omega) rfl (fun sq hsq => ?_)) | ((show Nat.le (ByteArray.size _ + ByteArray.size _) _; rw [hsq]; exact Nat.le_of_ble_eq_true rfl)) | refine o1 ?_ | refine o2 ?_ | refine k1 ?_ | refine k2 ?_ | refine k3 ?_ | refine k4 ?_ | refine k6 ?_ | refine And.intro ?_ ?_ | (intro h; first | exact Bool.noConfusion h | exact nz _ h | exact nl h | (simp at h; done) | (simp at h; first | (exfalso; omega) | skip) | skip) | (refine (?_ : srcLen _ = rowsLen _); rfl) | exact Nat.le_of_ble_eq_true rfl | refine eqv_wrap (by omega) (by omega) ?_ | refine eqv_u8 (by omega) (by omega) ?_ | refine eqv_to _ (app_first rfl) (eqv_to 1 rfl ?_) | (change vcFun _ _ _ _ _; refine call_one2 0 rfl (by assumption) (by assumption) (by omega) (by omega) ?_; intro bq kq hkq) | fail)
                all_goals first
                  | (exfalso; omega)
                  | skip
                · exact ⟨(i + 1, kq, [ByteArray.mk #[115] ++ sq]), ⟨⟨by show i + 1 ≤ 4; omega, by show List.length _ ≤ i + 1; simp; try omega⟩, hkq⟩, (by show 4 - (i + 1) < 4 - i; omega), back [0, 1, 2, 3, 4, 5, 9] rfl rfl (by repeat' (first | exact trivial | exact rfl | refine And.intro ?_ ?_)) (by repeat' (first | exact trivial | exact rfl | refine And.intro ?_ ?_))⟩
                · exact ⟨(i + 1, kq, []), ⟨⟨by show i + 1 ≤ 4; omega, by show List.length _ ≤ i + 1; simp; try omega⟩, hkq⟩, (by show 4 - (i + 1) < 4 - i; omega), back [0, 1, 2, 3, 4, 5, 6] rfl rfl (by repeat' (first | exact trivial | exact rfl | refine And.intro ?_ ?_)) (by repeat' (first | exact trivial | exact rfl | refine And.intro ?_ ?_))⟩
              · repeat' (first | (refine join_in (a := .seq (.region 19 _ _) _) (fun _ => []) (fun x : Nat × List Str => [dice t x.1, zeroX, some ⟨33, 8, false, .box [.pv (encRooms rl), slP 3 4 (([]).map Exam.row), nilA, z0, z0, z0, z0, z0]⟩, obP 69 4 (([]).map Exam.row), none, some ⟨69, 4, false, .box [.pv (es (ByteArray.mk #[69] ++ s)), vint .i64 (1 + v), nilA, .pv (encStrs x.2)]⟩]) (fun x => x.1 ≤ t.length) ?_) | refine o1 ?_ | refine o2 ?_ | refine k1 ?_ | refine k2 ?_ | refine k3 ?_ | refine k8 ?_ | refine And.intro ?_ ?_ | (intro h; first | exact Bool.noConfusion h | exact nz _ h | exact nl h | (simp at h; done) | (simp at h; first | (exfalso; omega) | skip) | skip) | fail)
                all_goals first
                  | (exfalso; omega)
                  | skip
                · exact ⟨(k, [⟨#[115, 57]⟩]), c4, Ghost.trans (Ghost.shut (i := 5) (c := 3) (x := .ms 7 1 0 1) rfl rfl rfl (by repeat' (first | (show 0 + _ ≤ List.length _; simp))) (show ¬ (5 ∈ ([7] : List Nat)) by decide) ALe.refl) (back [0, 1, 2, 3, 4, 5] rfl rfl (by repeat' (first | exact trivial | exact rfl | refine And.intro ?_ ?_)) (by repeat' (first | exact trivial | exact rfl | refine And.intro ?_ ?_)))⟩
                refine ⟨?_⟩
                rintro ⟨k, us⟩ c5
                dsimp only [slP, obP, zeroX, nilA, z0, List.length_cons, List.length_nil, List.map] at c5 ⊢
                repeat' (first | (refine join_in (a := .seq (.region 21 _ _) _) (fun _ => []) (fun x : Nat × List Str => [dice t x.1, zeroX, some ⟨33, 8, false, .box [.pv (encRooms rl), slP 3 4 (([]).map Exam.row), nilA, z0, z0, z0, z0, z0]⟩, obP 69 4 (([]).map Exam.row), none, some ⟨69, 4, false, .box [.pv (es (ByteArray.mk #[69] ++ s)), vint .i64 (1 + v), .pv (encStrs x.2), .pv (encStrs us)]⟩]) (fun x => x.1 ≤ t.length) ?_) | refine o1 ?_ | refine o2 ?_ | refine k1 ?_ | refine k2 ?_ | refine k3 ?_ | refine k6 ?_ | refine And.intro ?_ ?_ | (intro h; first | exact Bool.noConfusion h | exact nz _ h | exact nl h | (simp at h; done) | (simp at h; first | (exfalso; omega) | skip) | skip) | (change vcFun _ _ _ _ _; refine call_one2 0 rfl (by assumption) (by assumption) (by omega) (by omega) ?_; intro bq kq hkq) | fail)
                · exact ⟨(kq, [⟨#[108, 97, 98]⟩]), hkq, Ghost.trans (Ghost.shut (i := 5) (c := 2) (x := .ms 6 1 0 1) rfl rfl rfl (by repeat' (first | (show 0 + _ ≤ List.length _; simp))) (show ¬ (5 ∈ ([6] : List Nat)) by decide) ALe.refl) (back [0, 1, 2, 3, 4, 5] rfl rfl (by repeat' (first | exact trivial | exact rfl | refine And.intro ?_ ?_)) (by repeat' (first | exact trivial | exact rfl | refine And.intro ?_ ?_)))⟩
                · exact ⟨(kq, []), hkq, Ghost.trans (Ghost.shut (i := 5) (c := 2) (x := .pv (.val (.slice none 0 0))) rfl rfl rfl (by repeat' (first | trivial)) (show ¬ (5 ∈ ([] : List Nat)) by decide) (ALe.pv PLe.nil)) (back [0, 1, 2, 3, 4, 5] rfl rfl (by repeat' (first | exact trivial | exact rfl | refine And.intro ?_ ?_)) (by repeat' (first | exact trivial | exact rfl | refine And.intro ?_ ?_)))⟩
                refine ⟨?_⟩
                rintro ⟨k, fs⟩ c6
                dsimp only [slP, obP, zeroX, nilA, z0, List.length_cons, List.length_nil, List.map] at c6 ⊢
                repeat' (first | refine o1 ?_ | refine o2 ?_ | refine k2 ?_ | refine And.intro ?_ ?_ | (intro h; first | exact Bool.noConfusion h | exact nz _ h | exact nl h | (simp at h; done) | (simp at h; first | (exfalso; omega) | skip) | skip) | (refine (?_ : srcLen _ = rowsLen _); rfl) | exact Nat.le_of_ble_eq_true rfl | refine eqv_wrap (by omega) (by omega) ?_ | refine eqv_to _ (app_first rfl) (eqv_to 1 rfl ?_) | fail)
                all_goals first
                  | (exfalso; omega)
                  | skip
                · exact ⟨(n - 1, k, [⟨ByteArray.mk #[69] ++ s, 1 + v, fs, us⟩]), ⟨by show n - 1 + List.length _ ≤ 5; simp; try omega, c6⟩, (by show n - 1 < n; omega), back [0, 1, 2, 7] rfl rfl (by repeat' (first | exact trivial | exact rfl | refine And.intro ?_ ?_)) ⟨slot_eq rfl (congrArg (vint .i64) (by show _ = ((n - 1 : Nat) : Int); omega)), by repeat' (first | exact trivial | exact rfl | refine And.intro ?_ ?_)⟩⟩
            · dsimp only [slP, obP, zeroX, nilA, z0, List.length_cons, List.length_nil, List.map] at c3 c4 ⊢
              rcases Nat.lt_or_ge i 4 with hi | hi
              · repeat' (first | (refine bytes_one (by omega) (by omega) rfl (fun sq hsq => ?_)) | ((show Nat.le (ByteArray.size _ + ByteArray.size _) _; rw [hsq]; exact Nat.le_of_ble_eq_true rfl)) | (refine app_consm (f := fun w => [es w]) (e0 := w0) (ByteArray.mk #[115] ++ sq) rfl ?_) | refine o1 ?_ | refine o2 ?_ | refine k1 ?_ | refine k2 ?_ | refine k3 ?_ | refine k4 ?_ | refine k6 ?_ | refine And.intro ?_ ?_ | (intro h; first | exact Bool.noConfusion h | exact nz _ h | exact nl h | (simp at h; done) | (simp at h; first | (exfalso; omega) | skip) | skip) | (refine (?_ : srcLen _ = rowsLen _); rfl) | refine eqv_wrap (by omega) (by omega) ?_ | refine eqv_u8 (by omega) (by omega) ?_ | (refine (?_ : _ ≤ 140737488355328); simp [rowsLen] <;> omega) | (refine (?_ : _ ≤ 9223372036854775807); simp [rowsLen] <;> omega) | (refine (?_ : _ = rowsLen _); simp [rowsLen] <;> omega) | (change vcFun _ _ _ _ _; refine call_one2 0 rfl (by assumption) (by assumption) (by omega) (by omega) ?_; intro bq kq hkq) | fail)
                all_goals first
                  | (exfalso; omega)
                  | skip
                · exact ⟨(i + 1, kq, w0 :: (ss ++ [ByteArray.mk #[115] ++ sq])), ⟨⟨by show i + 1 ≤ 4; omega, by show List.length _ ≤ i + 1; simp; try omega⟩, hkq⟩, (by show 4 - (i + 1) < 4 - i; omega), back [0, 1, 2, 3, 4, 5, 9] rfl rfl (by repeat' (first | exact trivial | exact rfl | refine And.intro ?_ ?_)) (by repeat' (first | exact trivial | exact rfl | refine And.intro ?_ ?_))⟩
                · exact ⟨(i + 1, kq, w0 :: ss), ⟨⟨by show i + 1 ≤ 4; omega, by show List.length _ ≤ i + 1; simp; try omega⟩, hkq⟩, (by show 4 - (i + 1) < 4 - i; omega), back [0, 1, 2, 3, 4, 5, 6] rfl rfl (by repeat' (first | exact trivial | exact rfl | refine And.intro ?_ ?_)) (by repeat' (first | exact trivial | exact rfl | refine And.intro ?_ ?_))⟩
              · repeat' (first | (refine join_in (a := .seq (.region 19 _ _) _) (fun _ => []) (fun x : Nat × List Str => [dice t x.1, zeroX, some ⟨33, 8, false, .box [.pv (encRooms rl), slP 3 4 (([]).map Exam.row), nilA, z0, z0, z0, z0, z0]⟩, obP 69 4 (([]).map Exam.row), none, some ⟨69, 4, false, .box [.pv (es (ByteArray.mk #[69] ++ s)), vint .i64 (1 + v), nilA, .pv (encStrs x.2)]⟩]) (fun x => x.1 ≤ t.length) ?_) | refine o1 ?_ | refine o2 ?_ | refine k1 ?_ | refine k2 ?_ | refine k3 ?_ | refine k6 ?_ | refine k8 ?_ | refine And.intro ?_ ?_ | (intro h; first | exact Bool.noConfusion h | exact nz _ h | exact nl h | (simp at h; done) | (simp at h; first | (exfalso; omega) | skip) | skip) | fail)
                all_goals first
                  | (exfalso; omega)
                  | skip
                · refine ⟨(k, w0 :: ss), c4, Ghost.trans (Ghost.shut (i := 5) (c := 3) (x := .ms 6 1 0 ((List.map (fun w => [es w]) ss).length + 1)) rfl rfl rfl (by repeat' (first | (show 0 + _ ≤ List.length _; simp))) (show ¬ (5 ∈ ([6] : List Nat)) by decide) (ALe.pv (PLe.sl (?_ : PLeLL _ ((w0 :: ss).map fun w => [es w]))))) (back [0, 1, 2, 3, 4, 5] rfl rfl (by repeat' (first | exact trivial | exact rfl | refine And.intro ?_ ?_)) (by repeat' (first | exact trivial | exact rfl | refine And.intro ?_ ?_)))⟩
                  rw [List.drop_zero, List.take_of_length_le (by simp)]
                  exact PLeLL.refl
                refine ⟨?_⟩
                rintro ⟨k, us⟩ c5
                dsimp only [slP, obP, zeroX, nilA, z0, List.length_cons, List.length_nil, List.map] at c5 ⊢
                repeat' (first | (refine join_in (a := .seq (.region 21 _ _) _) (fun _ => []) (fun x : Nat × List Str => [dice t x.1, zeroX, some ⟨33, 8, false, .box [.pv (encRooms rl), slP 3 4 (([]).map Exam.row), nilA, z0, z0, z0, z0, z0]⟩, obP 69 4 (([]).map Exam.row), none, some ⟨69, 4, false, .box [.pv (es (ByteArray.mk #[69] ++ s)), vint .i64 (1 + v), .pv (encStrs x.2), .pv (encStrs us)]⟩]) (fun x => x.1 ≤ t.length) ?_) | refine o1 ?_ | refine o2 ?_ | refine k1 ?_ | refine k2 ?_ | refine k3 ?_ | refine k6 ?_ | refine And.intro ?_ ?_ | (intro h; first | exact Bool.noConfusion h | exact nz _ h | exact nl h | (simp at h; done) | (simp at h; first | (exfalso; omega) | skip) | skip) | (change vcFun _ _ _ _ _; refine call_one2 0 rfl (by assumption) (by assumption) (by omega) (by omega) ?_; intro bq kq hkq) | fail)
                · exact ⟨(kq, [⟨#[108, 97, 98]⟩]), hkq, Ghost.trans (Ghost.shut (i := 5) (c := 2) (x := .ms 6 1 0 1) rfl rfl rfl (by repeat' (first | (show 0 + _ ≤ List.length _; simp))) (show ¬ (5 ∈ ([6] : List Nat)) by decide) ALe.refl) (back [0, 1, 2, 3, 4, 5] rfl rfl (by repeat' (first | exact trivial | exact rfl | refine And.intro ?_ ?_)) (by repeat' (first | exact trivial | exact rfl | refine And.intro ?_ ?_)))⟩
                · exact ⟨(kq, []), hkq, Ghost.trans (Ghost.shut (i := 5) (c := 2) (x := .pv (.val (.slice none 0 0))) rfl rfl rfl (by repeat' (first | trivial)) (show ¬ (5 ∈ ([] : List Nat)) by decide) (ALe.pv PLe.nil)) (back [0, 1, 2, 3, 4, 5] rfl rfl (by repeat' (first | exact trivial | exact rfl | refine And.intro ?_ ?_)) (by repeat' (first | exact trivial | exact rfl | refine And.intro ?_ ?_)))⟩
                refine ⟨?_⟩
                rintro ⟨k, fs⟩ c6
                dsimp only [slP, obP, zeroX, nilA, z0, List.length_cons, List.length_nil, List.map] at c6 ⊢
                repeat' (first | refine o1 ?_ | refine o2 ?_ | refine k2 ?_ | refine And.intro ?_ ?_ | (intro h; first | exact Bool.noConfusion h | exact nz _ h | exact nl h | (simp at h; done) | (simp at h; first | (exfalso; omega) | skip) | skip) | (refine (?_ : srcLen _ = rowsLen _); rfl) | exact Nat.le_of_ble_eq_true rfl | refine eqv_wrap (by omega) (by omega) ?_ | refine eqv_to _ (app_first rfl) (eqv_to 1 rfl ?_) | fail)
                all_goals first
                  | (exfalso; omega)
                  | skip
                · exact ⟨(n - 1, k, [⟨ByteArray.mk #[69] ++ s, 1 + v, fs, us⟩]), ⟨by show n - 1 + List.length _ ≤ 5; simp; try omega, c6⟩, (by show n - 1 < n; omega), back [0, 1, 2, 7] rfl rfl (by repeat' (first | exact trivial | exact rfl | refine And.intro ?_ ?_)) ⟨slot_eq rfl (congrArg (vint .i64) (by show _ = ((n - 1 : Nat) : Int); omega)), by repeat' (first | exact trivial | exact rfl | refine And.intro ?_ ?_)⟩⟩
        · have hlm : ((e0 :: l).map Exam.row).length = (e0 :: l).length := List.length_map ..
          dsimp only [slP, obP, zeroX, nilA, z0, List.length_cons, List.length_nil, List.map] at c1 c2 hlm ⊢
          rcases Nat.eq_zero_or_pos n with rfl | hn
          · repeat' (first | refine o1 ?_ | refine o2 ?_ | refine k1 ?_ | refine k2 ?_ | refine k3 ?_ | refine k8 ?_ | refine And.intro ?_ ?_ | (intro h; first | exact Bool.noConfusion h | exact nz _ h | exact nl h | (simp at h; done) | (simp at h; first | (exfalso; omega) | skip) | skip) | fail)
            first
              | exact ⟨(k, []), ⟨c2, Nat.zero_le _⟩, Ghost.trans (Ghost.shut (i := 2) (c := 1) (x := .pv (.val (.slice none 0 0))) rfl rfl rfl (by repeat' (first | trivial)) (show ¬ (2 ∈ ([] : List Nat)) by decide) (ALe.pv PLe.nil)) (back [0, 1, 2] rfl rfl ⟨rfl, rfl, rfl, trivial⟩ (by repeat' (first | exact trivial | exact rfl | refine And.intro ?_ ?_)))⟩
              | (refine ⟨(k, e0 :: l), ⟨c2, (by show List.length _ ≤ 5; simp only [List.length_cons]; omega)⟩, Ghost.trans (Ghost.shut (i := 2) (c := 1) (x := .ms 3 4 0 ((List.map Exam.row l).length + 1)) rfl rfl rfl (by repeat' (first | (show 0 + _ ≤ List.length _; simp))) (show ¬ (2 ∈ ([3] : List Nat)) by decide) (ALe.pv (PLe.sl (?_ : PLeLL _ ((e0 :: l).map Exam.row))))) (back [0, 1, 2] rfl rfl ⟨rfl, rfl, rfl, trivial⟩ (by repeat' (first | exact trivial | exact rfl | refine And.intro ?_ ?_)))⟩
                 rw [List.drop_zero, List.take_of_length_le (by simp)]
                 exact PLeLL.refl)
          · repeat' (first | (refine bytes_one (by omega) (by omega) rfl (fun s hs => ?_)) | ((show Nat.le (ByteArray.size _ + ByteArray.size _) _; rw [hs]; exact Nat.le_of_ble_eq_true rfl)) | refine o1 ?_ | refine o2 ?_ | refine k1 ?_ | refine k2 ?_ | refine k3 ?_ | refine k4 ?_ | refine k6 ?_ | refine And.intro ?_ ?_ | refine o3 ?_ | refine o4 ?_ | (intro h; first | exact Bool.noConfusion h | exact nz _ h | exact nl h | (simp at h; done) | (simp at h; first | (exfalso; omega) | skip) | skip) | exact (by kernel_rfl : drawOk _ _ = true) | refine eqv_wrap (by omega) (by omega) ?_ | refine eqv_u8 (by omega) (by omega) ?_ | (change vcFunD _ _ _ _ _; refine callD_next 0 rfl (by assumption) (by assumption) (by omega) (by omega) ?_; intro v kq hv1 hv2 hkq) | fail)
            all_goals first
              | (exfalso; omega)
              | skip
            refine loop_in (fun x : Nat × Nat × List Str => [(7, vint .i64 x.1)]) (fun x => [dice t x.2.1, zeroX, some ⟨33, 8, false, .box [.pv (encRooms rl), slP 3 4 ((e0 :: l).map Exam.row), nilA, z0, z0, z0, z0, z0]⟩, obP 69 4 ((e0 :: l).map Exam.row), none, some ⟨69, 4, false, .box [.pv (es (ByteArray.mk #[69] ++ s)), vint .i64 (1 + v), nilA, slP 6 1 (x.2.2.map fun w => [es w])]⟩, obP 9 1 (x.2.2.map fun w => [es w])])
              (fun x => (x.1 ≤ 4 ∧ x.2.2.length ≤ x.1) ∧ x.2.1 ≤ t.length) (fun x => 4 - x.1) (0, kq, []) ⟨⟨by simp, by simp⟩, hkq⟩ ⟨?_, ?_⟩
            · exact back [0, 1, 2, 3, 4, 5, 6] rfl rfl (by repeat' (first | exact trivial | exact rfl | refine And.intro ?_ ?_)) (by repeat' (first | exact trivial | exact rfl | refine And.intro ?_ ?_))
            rintro ⟨i, k, ss⟩ ⟨c3, c4⟩
            rcases ss with _ | ⟨w0, ss⟩
            · dsimp only [slP, obP, zeroX, nilA, z0, List.length_cons, List.length_nil, List.map] at c3 c4 ⊢
              rcases Nat.lt_or_ge i 4 with hi | hi
              · repeat' (first | (refine bytes_one (by omega) (by omega) rfl (fun sq hsq => ?_)) | ((show Nat.le (ByteArray.size _ + ByteArray.size _) _; rw [hsq]; exact Nat.le_of_ble_eq_true rfl)) | refine o1 ?_ | refine o2 ?_ | refine k1 ?_ | refine k2 ?_ | refine k3 ?_ | refine k4 ?_ | refine k6 ?_ | refine And.intro ?_ ?_ | (intro h; first | exact Bool.noConfusion h | exact nz _ h | exact nl h | (simp at h; done) | (simp at h; first | (exfalso; omega) | skip) | skip) | (refine (?_ : srcLen _ = rowsLen _); rfl) | exact Nat.le_of_ble_eq_true rfl | refine eqv_wrap (by omega) (by omega) ?_ | refine eqv_u8 (by omega) (by omega) ?_ | refine eqv_to _ (app_first rfl) (eqv_to 1 rfl ?_) | (change vcFun _ _ _ _ _; refine call_one2 0 rfl (by assumption) (by assumption) (by omega) (by omega) ?_; intro bq kq hkq) | fail)
                all_goals first
                  | (exfalso; omega)
                  | skip
                · exact ⟨(i + 1, kq, [ByteArray.mk #[115] ++ sq]), ⟨⟨by show i + 1 ≤ 4; omega, by show List.length _ ≤ i + 1; simp; try omega⟩, hkq⟩, (by show 4 - (i + 1) < 4 - i; omega), back [0, 1, 2, 3, 4, 5, 9] rfl rfl (by repeat' (first | exact trivial | exact rfl | refine And.intro ?_ ?_)) (by repeat' (first | exact trivial | exact rfl | refine And.intro ?_ ?_))⟩
                · exact ⟨(i + 1, kq, []), ⟨⟨by show i + 1 ≤ 4; omega, by show List.length _ ≤ i + 1; simp; try omega⟩, hkq⟩, (by show 4 - (i + 1) < 4 - i; omega), back [0, 1, 2, 3, 4, 5, 6] rfl rfl (by repeat' (first | exact trivial | exact rfl | refine And.intro ?_ ?_)) (by repeat' (first | exact trivial | exact rfl | refine And.intro ?_ ?_))⟩
              · repeat' (first | (refine join_in (a := .seq (.region 19 _ _) _) (fun _ => []) (fun x : Nat × List Str => [dice t x.1, zeroX, some ⟨33, 8, false, .box [.pv (encRooms rl), slP 3 4 ((e0 :: l).map Exam.row), nilA, z0, z0, z0, z0, z0]⟩, obP 69 4 ((e0 :: l).map Exam.row), none, some ⟨69, 4, false, .box [.pv (es (ByteArray.mk #[69] ++ s)), vint .i64 (1 + v), nilA, .pv (encStrs x.2)]⟩]) (fun x => x.1 ≤ t.length) ?_) | refine o1 ?_ | refine o2 ?_ | refine k1 ?_ | refine k2 ?_ | refine k3 ?_ | refine k8 ?_ | refine And.intro ?_ ?_ | (intro h; first | exact Bool.noConfusion h | exact nz _ h | exact nl h | (simp at h; done) | (simp at h; first | (exfalso; omega) | skip) | skip) | fail)
                all_goals first
                  | (exfalso; omega)
                  | skip
                · exact ⟨(k, [⟨#[115, 57]⟩]), c4, Ghost.trans (Ghost.shut (i := 5) (c := 3) (x := .ms 7 1 0 1) rfl rfl rfl (by repeat' (first | (show 0 + _ ≤ List.length _; simp))) (show ¬ (5 ∈ ([7] : List Nat)) by decide) ALe.refl) (back [0, 1, 2, 3, 4, 5] rfl rfl (by repeat' (first | exact trivial | exact rfl | refine And.intro ?_ ?_)) (by repeat' (first | exact trivial | exact rfl | refine And.intro ?_ ?_)))⟩
                refine ⟨?_⟩
                rintro ⟨k, us⟩ c5
                dsimp only [slP, obP, zeroX, nilA, z0, List.length_cons, List.length_nil, List.map] at c5 ⊢
                repeat' (first | (refine join_in (a := .seq (.region 21 _ _) _) (fun _ => []) (fun x : Nat × List Str => [dice t x.1, zeroX, some ⟨33, 8, false, .box [.pv (encRooms rl), slP 3 4 ((e0 :: l).map Exam.row), nilA, z0, z0, z0, z0, z0]⟩, obP 69 4 ((e0 :: l).map Exam.row), none, some ⟨69, 4, false, .box [.pv (es (ByteArray.mk #[69] ++ s)), vint .i64 (1 + v), .pv (encStrs x.2), .pv (encStrs us)]⟩]) (fun x => x.1 ≤ t.length) ?_) | refine o1 ?_ | refine o2 ?_ | refine k1 ?_ | refine k2 ?_ | refine k3 ?_ | refine k6 ?_ | refine And.intro ?_ ?_ | (intro h; first | exact Bool.noConfusion h | exact nz _ h | exact nl h | (simp at h; done) | (simp at h; first | (exfalso; omega) | skip) | skip) | (change vcFun _ _ _ _ _; refine call_one2 0 rfl (by assumption) (by assumption) (by omega) (by omega) ?_; intro bq kq hkq) | fail)
                · exact ⟨(kq, [⟨#[108, 97, 98]⟩]), hkq, Ghost.trans (Ghost.shut (i := 5) (c := 2) (x := .ms 6 1 0 1) rfl rfl rfl (by repeat' (first | (show 0 + _ ≤ List.length _; simp))) (show ¬ (5 ∈ ([6] : List Nat)) by decide) ALe.refl) (back [0, 1, 2, 3, 4, 5] rfl rfl (by repeat' (first | exact trivial | exact rfl | refine And.intro ?_ ?_)) (by repeat' (first | exact trivial | exact rfl | refine And.intro ?_ ?_)))⟩
                · exact ⟨(kq, []), hkq, Ghost.trans (Ghost.shut (i := 5) (c := 2) (x := .pv (.val (.slice none 0 0))) rfl rfl rfl (by repeat' (first | trivial)) (show ¬ (5 ∈ ([] : List Nat)) by decide) (ALe.pv PLe.nil)) (back [0, 1, 2, 3, 4, 5] rfl rfl (by repeat' (first | exact trivial | exact rfl | refine And.intro ?_ ?_)) (by repeat' (first | exact trivial | exact rfl | refine And.intro ?_ ?_)))⟩
                refine ⟨?_⟩
                rintro ⟨k, fs⟩ c6
                dsimp only [slP, obP, zeroX, nilA, z0, List.length_cons, List.length_nil, List.map] at c6 ⊢
                repeat' (first | (refine app_consm (f := Exam.row) ⟨ByteArray.mk #[69] ++ s, 1 + v, fs, us⟩ rfl ?_) | refine o1 ?_ | refine o2 ?_ | refine k2 ?_ | refine And.intro ?_ ?_ | (refine (?_ : srcLen _ = rowsLen _); rfl) | refine eqv_wrap (by omega) (by omega) ?_ | (refine (?_ : _ ≤ 140737488355328); simp [rowsLen] <;> omega) | (refine (?_ : _ ≤ 9223372036854775807); simp [rowsLen] <;> omega) | (refine (?_ : _ = rowsLen _); simp [rowsLen] <;> omega) | fail)
                all_goals first
                  | (exfalso; omega)
                  | skip
                · exact ⟨(n - 1, k, e0 :: (l ++ [⟨ByteArray.mk #[69] ++ s, 1 + v, fs, us⟩])), ⟨by show n - 1 + List.length _ ≤ 5; simp; try omega, c6⟩, (by show n - 1 < n; omega), back [0, 1, 2, 7] rfl rfl (by repeat' (first | exact trivial | exact rfl | refine And.intro ?_ ?_)) ⟨slot_eq rfl (congrArg (vint .i64) (by show _ = ((n - 1 : Nat) : Int); omega)), by repeat' (first | exact trivial | exact rfl | refine And.intro ?_ ?_)⟩⟩
            · dsimp only [slP, obP, zeroX, nilA, z0, List.length_cons, List.length_nil, List.map] at c3 c4 ⊢
              rcases Nat.lt_or_ge i 4 with hi | hi
              · repeat' (first | (refine bytes_one (by omega) (by omega) rfl (fun sq hsq => ?_)) | ((show Nat.le (ByteArray.size _ + ByteArray.size _) _; rw [hsq]; exact Nat.le_of_ble_eq_true rfl)) | (refine app_consm (f := fun w => [es w]) (e0 := w0) (ByteArray.mk #[115] ++ sq) rfl ?_) | refine o1 ?_ | refine o2 ?_ | refine k1 ?_ | refine k2 ?_ | refine k3 ?_ | refine k4 ?_ | refine k6 ?_ | refine And.intro ?_ ?_ | (intro h; first | exact Bool.noConfusion h | exact nz _ h | exact nl h | (simp at h; done) | (simp at h; first | (exfalso; omega) | skip) | skip) | (refine (?_ : srcLen _ = rowsLen _); rfl) | refine eqv_wrap (by omega) (by omega) ?_ | refine eqv_u8 (by omega) (by omega) ?_ | (refine (?_ : _ ≤ 140737488355328); simp [rowsLen] <;> omega) | (refine (?_ : _ ≤ 9223372036854775807); simp [rowsLen] <;> omega) | (refine (?_ : _ = rowsLen _); simp [rowsLen] <;> omega) | (change vcFun _ _ _ _ _; refine call_one2 0 rfl (by assumption) (by assumption) (by omega) (by omega) ?_; intro bq kq hkq) | fail)
                all_goals first
                  | (exfalso; omega)
                  | skip
                · exact ⟨(i + 1, kq, w0 :: (ss ++ [ByteArray.mk #[115] ++ sq])), ⟨⟨by show i + 1 ≤ 4; omega, by show List.length _ ≤ i + 1; simp; try omega⟩, hkq⟩, (by show 4 - (i + 1) < 4 - i; omega), back [0, 1, 2, 3, 4, 5, 9] rfl rfl (by repeat' (first | exact trivial | exact rfl | refine And.intro ?_ ?_)) (by repeat' (first | exact trivial | exact rfl | refine And.intro ?_ ?_))⟩
                · exact ⟨(i + 1, kq, w0 :: ss), ⟨⟨by show i + 1 ≤ 4; omega, by show List.length _ ≤ i + 1; simp; try omega⟩, hkq⟩, (by show 4 - (i + 1) < 4 - i; omega), back [0, 1, 2, 3, 4, 5, 6] rfl rfl (by repeat' (first | exact trivial | exact rfl | refine And.intro ?_ ?_)) (by repeat' (first | exact trivial | exact rfl | refine And.intro ?_ ?_))⟩
              · repeat' (first | (refine join_in (a := .seq (.region 19 _ _) _) (fun _ => []) (fun x : Nat × List Str => [dice t x.1, zeroX, some ⟨33, 8, false, .box [.pv (encRooms rl), slP 3 4 ((e0 :: l).map Exam.row), nilA, z0, z0, z0, z0, z0]⟩, obP 69 4 ((e0 :: l).map Exam.row), none, some ⟨69, 4, false, .box [.pv (es (ByteArray.mk #[69] ++ s)), vint .i64 (1 + v), nilA, .pv (encStrs x.2)]⟩]) (fun x => x.1 ≤ t.length) ?_) | refine o1 ?_ | refine o2 ?_ | refine k1 ?_ | refine k2 ?_ | refine k3 ?_ | refine k6 ?_ | refine k8 ?_ | refine And.intro ?_ ?_ | (intro h; first | exact Bool.noConfusion h | exact nz _ h | exact nl h | (simp at h; done) | (simp at h; first | (exfalso; omega) | skip) | skip) | fail)
                all_goals first
                  | (exfalso; omega)
                  | skip
                · refine ⟨(k, w0 :: ss), c4, Ghost.trans (Ghost.shut (i := 5) (c := 3) (x := .ms 6 1 0 ((List.map (fun w => [es w]) ss).length + 1)) rfl rfl rfl (by repeat' (first | (show 0 + _ ≤ List.length _; simp))) (show ¬ (5 ∈ ([6] : List Nat)) by decide) (ALe.pv (PLe.sl (?_ : PLeLL _ ((w0 :: ss).map fun w => [es w]))))) (back [0, 1, 2, 3, 4, 5] rfl rfl (by repeat' (first | exact trivial | exact rfl | refine And.intro ?_ ?_)) (by repeat' (first | exact trivial | exact rfl | refine And.intro ?_ ?_)))⟩
                  rw [List.drop_zero, List.take_of_length_le (by simp)]
                  exact PLeLL.refl
                refine ⟨?_⟩
                rintro ⟨k, us⟩ c5
                dsimp only [slP, obP, zeroX, nilA, z0, List.length_cons, List.length_nil, List.map] at c5 ⊢
                repeat' (first | (refine join_in (a := .seq (.region 21 _ _) _) (fun _ => []) (fun x : Nat × List Str => [dice t x.1, zeroX, some ⟨33, 8, false, .box [.pv (encRooms rl), slP 3 4 ((e0 :: l).map Exam.row), nilA, z0, z0, z0, z0, z0]⟩, obP 69 4 ((e0 :: l).map Exam.row), none, some ⟨69, 4, false, .box [.pv (es (ByteArray.mk #[69] ++ s)), vint .i64 (1 + v), .pv (encStrs x.2), .pv (encStrs us)]⟩]) (fun x => x.1 ≤ t.length) ?_) | refine o1 ?_ | refine o2 ?_ | refine k1 ?_ | refine k2 ?_ | refine k3 ?_ | refine k6 ?_ | refine And.intro ?_ ?_ | (intro h; first | exact Bool.noConfusion h | exact nz _ h | exact nl h | (simp at h; done) | (simp at h; first | (exfalso; omega) | skip) | skip) | (change vcFun _ _ _ _ _; refine call_one2 0 rfl (by assumption) (by assumption) (by omega) (by omega) ?_; intro bq kq hkq) | fail)
                · exact ⟨(kq, [⟨#[108, 97, 98]⟩]), hkq, Ghost.trans (Ghost.shut (i := 5) (c := 2) (x := .ms 6 1 0 1) rfl rfl rfl (by repeat' (first | (show 0 + _ ≤ List.length _; simp))) (show ¬ (5 ∈ ([6] : List Nat)) by decide) ALe.refl) (back [0, 1, 2, 3, 4, 5] rfl rfl (by repeat' (first | exact trivial | exact rfl | refine And.intro ?_ ?_)) (by repeat' (first | exact trivial | exact rfl | refine And.intro ?_ ?_)))⟩
                · exact ⟨(kq, []), hkq, Ghost.trans (Ghost.shut (i := 5) (c := 2) (x := .pv (.val (.slice none 0 0))) rfl rfl rfl (by repeat' (first | trivial)) (show ¬ (5 ∈ ([] : List Nat)) by decide) (ALe.pv PLe.nil)) (back [0, 1, 2, 3, 4, 5] rfl rfl (by repeat' (first | exact trivial | exact rfl | refine And.intro ?_ ?_)) (by repeat' (first | exact trivial | exact rfl | refine And.intro ?_ ?_)))⟩
                refine ⟨?_⟩
                rintro ⟨k, fs⟩ c6
                dsimp only [slP, obP, zeroX, nilA, z0, List.length_cons, List.length_nil, List.map] at c6 ⊢
                repeat' (first | (refine app_consm (f := Exam.row) ⟨ByteArray.mk #[69] ++ s, 1 + v, fs, us⟩ rfl ?_) | refine o1 ?_ | refine o2 ?_ | refine k2 ?_ | refine And.intro ?_ ?_ | (refine (?_ : srcLen _ = rowsLen _); rfl) | refine eqv_wrap (by omega) (by omega) ?_ | (refine (?_ : _ ≤ 140737488355328); simp [rowsLen] <;> omega) | (refine (?_ : _ ≤ 9223372036854775807); simp [rowsLen] <;> omega) | (refine (?_ : _ = rowsLen _); simp [rowsLen] <;> omega) | fail)
                all_goals first
                  | (exfalso; omega)
                  | skip
                · exact ⟨(n - 1, k, e0 :: (l ++ [⟨ByteArray.mk #[69] ++ s, 1 + v, fs, us⟩])), ⟨by show n - 1 + List.length _ ≤ 5; simp; try omega, c6⟩, (by show n - 1 < n; omega), back [0, 1, 2, 7] rfl rfl (by repeat' (first | exact trivial | exact rfl | refine And.intro ?_ ?_)) ⟨slot_eq rfl (congrArg (vint .i64) (by show _ = ((n - 1 : Nat) : Int); omega)), by repeat' (first | exact trivial | exact rfl | refine And.intro ?_ ?_)⟩⟩
      refine ⟨?_⟩
      rintro ⟨k, l⟩ ⟨c3, cle⟩
      dsimp only [slP, obP, zeroX, nilA, z0, List.length_cons, List.length_nil] at c3 ⊢
      repeat' (first | (refine join_in (a := .seq (.region 25 _ _) _) (fun _ => []) (fun x : Nat × List Sitting => [dice t x.1, zeroX, some ⟨33, 8, false, .box [.pv (encRooms rl), .pv (.sl 4 (l.map Exam.row)), .pv (.sl 4 (x.2.map Sitting.row)), z0, z0, z0, z0, z0]⟩]) (fun x => x.1 ≤ t.length ∧ x.2.length ≤ 5) ?_) | refine o1 ?_ | refine o2 ?_ | refine k1 ?_ | refine k2 ?_ | refine k4 ?_ | refine And.intro ?_ ?_ | refine eqv_wrap (by omega) (by omega) ?_ | (change vcFun _ _ _ _ _; refine call_next 0 rfl (by assumption) (by assumption) (by omega) (by omega) ?_; intro v kq hv1 hv2 hkq) | fail)
      · refine loop_in (fun x : Nat × Int × Int × Nat × List (List PV) => [(8, vint .i64 x.2.1), (9, vint .i64 x.2.2.1), (10, vint .i64 x.1)]) (fun x => [dice t x.2.2.2.1, zeroX, some ⟨33, 8, false, .box [.pv (encRooms rl), .pv (.sl 4 (l.map Exam.row)), slP 3 4 x.2.2.2.2, z0, z0, z0, z0, z0]⟩, obP 23 4 x.2.2.2.2])
          (fun x => (x.1 + x.2.2.2.2.length ≤ 5 ∧ 0 ≤ x.2.1 ∧ x.2.1 + 10 * x.1 ≤ 100 ∧ 0 ≤ x.2.2.1 ∧ x.2.2.1 + 10 * x.1 ≤ 100) ∧ x.2.2.2.1 ≤ t.length ∧ ∀ r ∈ x.2.2.2.2, sitR r) (fun x => x.1) ((1 + v).toNat, 0, 0, kq, []) ⟨⟨by simp; omega, by simp, by simp; omega, by simp, by simp; omega⟩, hkq, by simp⟩ ⟨?_, ?_⟩
        · exact back [0, 1, 2, 3] rfl rfl ⟨rfl, rfl, rfl, trivial⟩ ⟨rfl, rfl, slot_eq rfl (congrArg (vint .i64) (by show _ = (((1 + v).toNat : Nat) : Int); omega)), by repeat' (first | exact trivial | exact rfl | refine And.intro ?_ ?_)⟩
        rintro ⟨n, day, start, k, rs⟩ ⟨c4, c5, c6⟩
        rcases rs with _ | ⟨r, rs⟩
        · dsimp only [slP, obP, zeroX, nilA, z0, List.length_cons, List.length_nil] at c4 c5 c6 ⊢
          rcases Nat.eq_zero_or_pos n with rfl | hn
          · obtain ⟨sl, hsl⟩ := sits_ex c6
            repeat' (first | refine o1 ?_ | refine o2 ?_ | refine k1 ?_ | refine k2 ?_ | refine k3 ?_ | refine k8 ?_ | refine And.intro ?_ ?_ | (intro h; first | exact Bool.noConfusion h | exact nz _ h | exact nl h | (simp at h; done) | (simp at h; first | (exfalso; omega) | skip) | skip) | fail)
            first
              | exact ⟨(k, []), ⟨c5, Nat.zero_le _⟩, Ghost.trans (Ghost.shut (i := 2) (c := 2) (x := .pv (.val (.slice none 0 0))) rfl rfl rfl (by repeat' (first | trivial)) (show ¬ (2 ∈ ([] : List Nat)) by decide) (ALe.pv PLe.nil)) (back [0, 1, 2] rfl rfl ⟨rfl, rfl, rfl, trivial⟩ (by repeat' (first | exact trivial | exact rfl | refine And.intro ?_ ?_)))⟩
              | (refine ⟨(k, sl), ⟨c5, (by have := congrArg List.length hsl; simp only [List.length_cons, List.length_map] at this; show sl.length ≤ 5; omega)⟩, Ghost.trans (Ghost.shut (i := 2) (c := 2) (x := .ms 3 4 0 (rs.length + 1)) rfl rfl rfl (by skip) (show ¬ (2 ∈ ([3] : List Nat)) by decide) (ALe.pv (PLe.sl (?_ : PLeLL _ (sl.map Sitting.row))))) (back [0, 1, 2] rfl rfl ⟨rfl, rfl, rfl, trivial⟩ (by skip))⟩
                 rw [← hsl, List.drop_zero, List.take_of_length_le (by simp)]
                 exact PLeLL.refl)
          · repeat' (first | refine o1 ?_ | refine o2 ?_ | refine k1 ?_ | refine k2 ?_ | refine k3 ?_ | refine k4 ?_ | refine k6 ?_ | refine And.intro ?_ ?_ | (intro h; first | exact Bool.noConfusion h | exact nz _ h | exact nl h | (simp at h; done) | (simp at h; first | (exfalso; omega) | skip) | skip) | (refine (?_ : srcLen _ = rowsLen _); rfl) | exact Nat.le_of_ble_eq_true rfl | exact (by kernel_rfl : drawOk _ _ = true) | refine eqv_wrap (by omega) (by omega) ?_ | refine eqv_to _ (app_first rfl) (eqv_to 1 rfl ?_) | (change vcFun _ _ _ _ _; refine call_next 0 rfl (by assumption) (by assumption) (by omega) (by omega) ?_; intro v kq hv1 hv2 hkq) | (change vcFun _ _ _ _ _; refine call_one2 0 rfl (by assumption) (by assumption) (by omega) (by omega) ?_; intro bq kq hkq) | fail)
            all_goals first
              | (exfalso; omega)
              | skip
            all_goals exact ⟨(n - 1, _, _, kq, [_]), ⟨⟨(by show n - 1 + List.length _ ≤ 5; simp; try omega), (by dsimp only; omega), (by dsimp only; omega), (by dsimp only; omega), (by dsimp only; omega)⟩, hkq, (fun q hq => by
              rcases mem_app (l := []) hq with hq | hq
              · exact c6 q hq
              · subst hq; exact ⟨⟨_, _, _, _⟩, rfl⟩)⟩, (by show n - 1 < n; omega), back [0, 1, 2, 6] rfl rfl ⟨rfl, rfl, rfl, rfl, trivial⟩ ⟨rfl, rfl, slot_eq rfl (congrArg (vint .i64) (by show _ = ((n - 1 : Nat) : Int); omega)), by repeat' (first | exact trivial | exact rfl | refine And.intro ?_ ?_)⟩⟩
        · dsimp only [slP, obP, zeroX, nilA, z0, List.length_cons, List.length_nil] at c4 c5 c6 ⊢
          rcases Nat.eq_zero_or_pos n with rfl | hn
          · obtain ⟨sl, hsl⟩ := sits_ex c6
            repeat' (first | refine o1 ?_ | refine o2 ?_ | refine k1 ?_ | refine k2 ?_ | refine k3 ?_ | refine k8 ?_ | refine And.intro ?_ ?_ | (intro h; first | exact Bool.noConfusion h | exact nz _ h | exact nl h | (simp at h; done) | (simp at h; first | (exfalso; omega) | skip) | skip) | fail)
            first
              | exact ⟨(k, []), ⟨c5, Nat.zero_le _⟩, Ghost.trans (Ghost.shut (i := 2) (c := 2) (x := .pv (.val (.slice none 0 0))) rfl rfl rfl (by repeat' (first | trivial)) (show ¬ (2 ∈ ([] : List Nat)) by decide) (ALe.pv PLe.nil)) (back [0, 1, 2] rfl rfl ⟨rfl, rfl, rfl, trivial⟩ (by repeat' (first | exact trivial | exact rfl | refine And.intro ?_ ?_)))⟩
              | (refine ⟨(k, sl), ⟨c5, (by have := congrArg List.length hsl; simp only [List.length_cons, List.length_map] at this; show sl.length ≤ 5; omega)⟩, Ghost.trans (Ghost.shut (i := 2) (c := 2) (x := .ms 3 4 0 (rs.length + 1)) rfl rfl rfl (by repeat' (first | (show 0 + _ ≤ List.length _; simp))) (show ¬ (2 ∈ ([3] : List Nat)) by decide) (ALe.pv (PLe.sl (?_ : PLeLL _ (sl.map Sitting.row))))) (back [0, 1, 2] rfl rfl ⟨rfl, rfl, rfl, trivial⟩ (by repeat' (first | exact trivial | exact rfl | refine And.intro ?_ ?_)))⟩
                 rw [← hsl, List.drop_zero, List.take_of_length_le (by simp)]
                 exact PLeLL.refl)
          · repeat' (first | (refine app_cons ?_) | refine o1 ?_ | refine o2 ?_ | refine k1 ?_ | refine k2 ?_ | refine k3 ?_ | refine k4 ?_ | refine k6 ?_ | refine And.intro ?_ ?_ | (intro h; first | exact Bool.noConfusion h | exact nz _ h | exact nl h | (simp at h; done) | (simp at h; first | (exfalso; omega) | skip) | skip) | (refine (?_ : srcLen _ = rowsLen _); rfl) | exact (by kernel_rfl : drawOk _ _ = true) | refine eqv_wrap (by omega) (by omega) ?_ | (refine (?_ : _ ≤ 140737488355328); simp [rowsLen] <;> omega) | (refine (?_ : _ ≤ 9223372036854775807); simp [rowsLen] <;> omega) | (refine (?_ : _ = rowsLen _); simp [rowsLen] <;> omega) | (change vcFun _ _ _ _ _; refine call_next 0 rfl (by assumption) (by assumption) (by omega) (by omega) ?_; intro v kq hv1 hv2 hkq) | (change vcFun _ _ _ _ _; refine call_one2 0 rfl (by assumption) (by assumption) (by omega) (by omega) ?_; intro bq kq hkq) | fail)
            all_goals first
              | (exfalso; omega)
              | skip
            all_goals exact ⟨(n - 1, _, _, kq, r :: (rs ++ [_])), ⟨⟨(by show n - 1 + List.length _ ≤ 5; simp; try omega), (by dsimp only; omega), (by dsimp only; omega), (by dsimp only; omega), (by dsimp only; omega)⟩, hkq, (fun q hq => by
              rcases mem_app (l := r :: rs) hq with hq | hq
              · exact c6 q hq
              · subst hq; exact ⟨⟨_, _, _, _⟩, rfl⟩)⟩, (by show n - 1 < n; omega), back [0, 1, 2, 6] rfl rfl ⟨rfl, rfl, rfl, rfl, trivial⟩ ⟨rfl, rfl, slot_eq rfl (congrArg (vint .i64) (by show _ = ((n - 1 : Nat) : Int); omega)), by repeat' (first | exact trivial | exact rfl | refine And.intro ?_ ?_)⟩⟩
      · refine ⟨?_⟩
        rintro ⟨k, sl⟩ ⟨c4, csl⟩
        dsimp only [slP, obP, zeroX, nilA, z0, List.length_cons, List.length_nil] at c4 csl cle ⊢
        repeat' (first | refine o1 ?_ | refine o2 ?_ | refine k1 ?_ | refine k2 ?_ | refine k7 ?_ | (change vcFun _ _ _ _ _; refine call_next 0 rfl (by assumption) (by assumption) (by omega) (by omega) ?_; intro v kq hv1 hv2 hkq) | fail)
        rename_i w1 q1 a1 a2 a3 w2 q2 b1 b2 b3 w3 q3 d1 d2 d3 w4 q4 e1 e2 e3
        exact ret_obj [0] [dice t kq] rfl rfl ⟨rfl, trivial⟩ (r' := ag (Exams.cells ⟨rl, l, sl, ⟨w1, w2, w3, w4, v⟩⟩)) rfl ⟨⟨rl, l, sl, ⟨w1, w2, w3, w4, v⟩⟩, kq, hkq, ⟨crl, cle, csl⟩, rfl, rfl⟩
    · repeat' (first | (refine bytes_one (by omega) (by omega) rfl (fun s hs => ?_)) | ((show Nat.le (ByteArray.size _ + ByteArray.size _) _; rw [hs]; exact Nat.le_of_ble_eq_true rfl)) | (refine app_cons ?_) | refine o1 ?_ | refine o2 ?_ | refine k1 ?_ | refine k2 ?_ | refine k3 ?_ | refine k4 ?_ | refine k6 ?_ | refine And.intro ?_ ?_ | refine o3 ?_ | refine o4 ?_ | (intro h; first | exact Bool.noConfusion h | exact nz _ h | exact nl h | (simp at h; done) | (simp at h; first | (exfalso; omega) | skip) | skip) | (refine (?_ : srcLen _ = rowsLen _); rfl) | exact (by kernel_rfl : drawOk _ _ = true) | refine eqv_wrap (by omega) (by omega) ?_ | refine eqv_u8 (by omega) (by omega) ?_ | (refine (?_ : _ ≤ 140737488355328); simp [rowsLen] <;> omega) | (refine (?_ : _ ≤ 9223372036854775807); simp [rowsLen] <;> omega) | (refine (?_ : _ = rowsLen _); simp [rowsLen] <;> omega) | (change vcFunD _ _ _ _ _; refine callD_next 0 rfl (by assumption) (by assumption) (by omega) (by omega) ?_; intro v kq hv1 hv2 hkq) | fail)
      all_goals first
        | (exfalso; omega)
        | skip
      exact ⟨(n - 1, kq, r :: (rs ++ [_])), ⟨⟨by show n - 1 + (r :: (rs ++ [_])).length ≤ 5; simp; omega, by show 1 ≤ n - 1 + (r :: (rs ++ [_])).length; simp; try omega⟩, hkq, fun q hq => by
        rcases mem_app (l := r :: rs) hq with hq | hq
        · exact c3 q hq
        · subst hq; exact ⟨_, _, _, rfl⟩⟩, (by show n - 1 < n; omega), back [0, 1, 2, 6] rfl rfl ⟨rfl, rfl, rfl, rfl, trivial⟩ ⟨slot_eq rfl (congrArg (vint .i64) (by show _ = ((n - 1 : Nat) : Int); omega)), by repeat' (first | exact trivial | exact rfl | refine And.intro ?_ ?_)⟩⟩
end Go.Proofs.YtpnghlibmpainaaGreat.Cw

/-
  Odd rooms.
-/
namespace Go.Cw
/-- A cell of a row becomes pure, the others are pure already. -/
theorem Ghost.shutK {n nh : Nat} {Γ : Slots} {H : Heap} {i k c ty z : Nat} {fz : Bool} {r : List PV} {xs : List (List PV)} {r0 : List AV} {x y : AV} {p' : PV} (hi : H[i]? = some (some ⟨ty, z, fz, .m ((xs.map pvs).set k r0)⟩)) (hk : xs[k]? = some r) (hr : r0 = (pvs r).set c x) (hlt : c < r.length)
    (hc : conv H x = some y) (hok : ok1 H x) (hn : i ∉ ids1 H x) (hle : ALe y (.pv p')) :
    Ghost n nh Γ H Γ ((app H (frz H (ids1 H x))).set i (some ⟨ty, z, fz, .p (xs.set k (r.set c p'))⟩)) := by
  have hkl : k < xs.length := (List.getElem?_eq_some_iff.1 hk).1
  refine Ghost.shutR (o := ⟨ty, z, fz, .m ((xs.map pvs).set k r0)⟩) hi (fun h j q hq => ?_) (fun c t => rfl) (fun j m u hu => ?_) hc hok hn hle
  · rw [List.getElem?_set] at hq
    split at hq
    · rename_i e; subst e
      injection hq with hq; subst hq
      have := h k r0 (by rw [List.getElem?_set_self (by simpa using hkl)])
      rw [hr, List.length_set, pvs_map, List.length_map] at this
      rw [List.length_set]; exact this
    · rename_i e
      have := h j (pvs q) (by rw [List.getElem?_set_ne e, List.getElem?_map, hq]; rfl)
      rw [pvs_map, List.length_map] at this; exact this
  · by_cases e : k = j
    · subst e
      simp only [rowCell] at hu ⊢
      rw [List.getElem?_set_self hkl] at hu
      rw [List.getElem?_set_self (by simpa using hkl), hr]
      simp only [Option.bind_some] at hu ⊢
      by_cases e : c = m
      · subst e
        right
        rw [List.getElem?_set_self hlt] at hu
        injection hu with hu
        exact ⟨hu.symm, List.getElem?_set_self (by rw [pvs_map, List.length_map]; exact hlt)⟩
      · left
        rw [List.getElem?_set_ne e] at hu ⊢
        rw [pvs_map, List.getElem?_map]; exact hu
    · left
      simp only [rowCell] at hu ⊢
      rw [List.getElem?_set_ne e] at hu ⊢
      rw [List.getElem?_map]
      cases h : xs[j]? with
      | none => rw [h] at hu; simp at hu
      | some q => rw [h] at hu; simpa [pvs_map] using hu
section
variable {P : Program} {T : Tab} {n nh : Nat} {a b : Code} {Q : Exit → Slots → Heap → Prop} {Γ : Slots} {H : Heap}
/-- As join_in and loop_in, but only the named slots are kept. -/
theorem join_to {X : Type} (g : X → Slots) (hp : X → Heap) (cond : X → Prop)
    (ha : xCode P T n nh a (thenQ (fun Γ' H' => ∃ x, cond x ∧ Ghost n nh Γ' H' (g x) (hp x)) Q) Γ H ∧ Later (∀ x, cond x → forceH (hp x) fun H1 => xCode P T n nh b Q (g x) H1)) : xCode P T n nh (.seq a b) Q Γ H := by
  refine code_join (fun S => ∃ x, cond x ∧ S = ⟨g x, hp x⟩) ?_ ?_
  · have : (fun Γ' H' => ∃ x, cond x ∧ Ghost n nh Γ' H' (g x) (hp x)) = fun Γ' H' => ∃ S, (∃ x, cond x ∧ S = (⟨g x, hp x⟩ : ASt)) ∧ Ghost n nh Γ' H' S.sl S.hp := by
      funext Γ' H'
      exact propext ⟨fun ⟨x, h1, h2⟩ => ⟨_, ⟨x, h1, rfl⟩, h2⟩, fun ⟨S, ⟨x, h1, e⟩, h2⟩ => ⟨x, h1, by subst e; exact h2⟩⟩
    rw [← this]
    exact ha.1
  · rintro S ⟨x, hx, rfl⟩
    have := ha.2.go x hx
    rw [forceH_eq] at this
    exact this
theorem loop_to {X : Type} (g : X → Slots) (hp : X → Heap) (cond : X → Prop) (μ : X → Nat) (x0 : X) (h0 : cond x0) (he : Ghost n nh Γ H (g x0) (hp x0))
    (hb : ∀ x, cond x → forceH (hp x) fun H1 => xCode P T n nh a (thenQ (fun Γ' H' => ∃ x', cond x' ∧ μ x' < μ x ∧ Ghost n nh Γ' H' (g x') (hp x')) Q) (g x) H1) : xCode P T n nh (.loop a) Q Γ H := by
  refine code_loop (fun x => ⟨g x, hp x⟩) cond μ ⟨x0, h0, he⟩ fun x hx => ?_
  have := hb x hx
  rw [forceH_eq] at this
  exact this
end
end Go.Cw
namespace Go.Proofs.YtpnghlibmpainaaGreat.Cw
open Go.Cw Go.Proofs
set_option linter.unusedVariables false
set_option maxRecDepth 100000
set_option maxHeartbeats 1600000

theorem app_whole {α : Type} {f : α → List PV} {e : α} {l : List α} {K : Go.Cw.Rows → Nat → Prop} (h : K (.p (f e :: l.map f)) (l.length + 1)) : eqv (Go.Cw.Rows.p (List.map f (e :: l))) fun rr => eqv (rowsLen rr) (K rr) :=
  ⟨_, rfl, _, by simp [rowsLen], h⟩

theorem row_at {α : Type} {f : α → List PV} {r : α} {l : List α} {k n : Nat} {C : List PV → Prop} (hn : n = l.length + 1) (hk : k < n) (h : ∀ x : α, (r :: l)[k]? = some x → C (f x)) : ∃ q, (f r :: List.map f l)[0 + k]? = some q ∧ C q := by
  obtain ⟨x, hx⟩ := getE (show k < (r :: l).length by simp; omega)
  refine ⟨f x, ?_, h x hx⟩
  rw [Nat.zero_add]
  show (List.map f (r :: l))[k]? = _
  rw [List.getElem?_map, hx]; rfl
def strRows : List (List PV) → Bool
  | [] => true
  | [.val (.string _)] :: l => strRows l
  | _ => false
theorem lits_ex : ∀ {L : List (List PV)} {k : Nat}, strRows L = true → k < L.length → ∃ x, L[k]? = some [es x]
  | [], k, _, h => by simp at h
  | r :: l, 0, h, _ => by
    unfold strRows at h
    split at h
    · rename_i heq; cases heq
    · rename_i heq; cases heq; exact ⟨_, rfl⟩
    · cases h
  | r :: l, k + 1, h, hk => by
    unfold strRows at h
    split at h
    · rename_i heq; cases heq
    · rename_i heq; cases heq
      obtain ⟨x, hx⟩ := lits_ex (L := l) (k := k) h (by simpa using hk)
      exact ⟨x, by simpa using hx⟩
    · cases h
theorem lits_load {L : List (List PV)} {k n : Nat} {C : List PV → Prop} (hn : n = L.length) (hk : k < n) (hL : strRows L = true) (h : ∀ x : Str, C [es x]) : ∃ r, L[0 + k]? = some r ∧ C r := by
  obtain ⟨x, hx⟩ := lits_ex hL (by omega : k < L.length)
  exact ⟨_, by rw [Nat.zero_add]; exact hx, h x⟩
theorem call_oddtime {t : List Int} {k : Nat} {H : Heap} {K : AV → Heap → Prop} (i : Nat) (x : Time) (hi : H[i]? = some (dice t k)) (ht : t.length ≤ 400) (hk : k ≤ t.length)
    (hK : ∀ y k2, k2 ≤ t.length → K (ag (Time.row y)) (H.set i (dice t k2))) : vcFun Tryz.prog 121 [.ptr i 2 0 0, ag x.row] H K := by
  refine call_one (i := i) hi (fun _ _ => rfl) [.ptr 0 2 0 0, ag x.row] rfl (c_oddtime t k ht hk x) ?_
  rintro r H' ⟨y, k', h1, rfl, rfl⟩
  exact ⟨_, rfl, fun _ _ => rfl, fun _ _ => rfl, hK y k' h1⟩

theorem set_at {α : Type} {f : α → List PV} {r : α} {l : List α} {k : Nat} (x : α) {q : List PV} {K : List (List PV) → Prop} (hq : q = f x) (h : K (List.map f ((r :: l).set k x))) : eqv ((f r :: List.map f l).set (0 + k) q) K :=
  ⟨_, by rw [hq, Nat.zero_add, List.map_set]; rfl, h⟩

theorem set_atm {α : Type} {f : α → List PV} {r : α} {l : List α} {k : Nat} {q : List AV} {K : List (List AV) → Prop} (h : K (((List.map f (r :: l)).map pvs).set k q)) : eqv ((List.map pvs (f r :: List.map f l)).set (0 + k) q) K :=
  ⟨_, by rw [Nat.zero_add]; rfl, h⟩
theorem rooms_whole {m : List Room} {n : Nat} (h : m.length = n) : ALe (.pv (.sl 5 (List.take n (List.drop 0 (List.map Room.row m))))) (.pv (encRooms m)) := by
  rw [List.drop_zero, List.take_of_length_le (by simp [h])]
  exact ALe.refl

theorem rooms_set {m : List Room} {n k : Nat} {q : List PV} (x : Room) (hq : q = x.row) (h : m.length = n) : ALe (.pv (.sl 5 (List.take n (List.drop 0 ((List.map Room.row m).set k q))))) (.pv (encRooms (m.set k x))) := by
  have : (List.map Room.row m).set k q = List.map Room.row (m.set k x) := by rw [hq, List.map_set]
  rw [this]
  exact rooms_whole (by rw [List.length_set, h])

theorem c_oddrooms0 (t : List Int) (k : Nat) (ht : t.length ≤ 400) (hk : k ≤ t.length) (l : List Room) (hl : l.length ≤ 1000) :
    ACall Tryz.prog 76 [.ptr 0 2 0 0, .pv (encRooms l)] [dice t k] (fun r H' => ∃ (m : List Room) (k' : Nat), k' ≤ t.length ∧ ALe r (.pv (encRooms m)) ∧ H' = [dice t k']) := by
  refine acall_of tok mixed 92 rfl (fn := Tryz.f76) (c := Tryz.f76.body.getD .skip) (by kernel_rfl) (by kernel_rfl) (by kernel_rfl) rfl 1 rfl ?_
  rcases l with _ | ⟨r, l⟩
  · repeat' (first | refine o1 ?_ | refine o2 ?_ | refine k1 ?_ | refine k2 ?_ | refine k3 ?_ | refine k7 ?_ | refine And.intro ?_ ?_ | (intro h; first | exact Bool.noConfusion h | exact nz _ h | exact nl h | (simp at h; done) | (simp at h; first | (exfalso; omega) | skip) | skip) | (refine (?_ : srcLen _ = rowsLen _); rfl) | exact Nat.le_of_ble_eq_true rfl | (change vcFun _ _ _ _ _; refine call_next 0 rfl (by assumption) (by assumption) (by omega) (by omega) ?_; intro v kq hv1 hv2 hkq) | fail)
    all_goals first
      | (exfalso; omega)
      | skip
    exact ret_conv [0] [dice t kq] rfl rfl ⟨rfl, trivial⟩ rfl (by repeat' (first | (show 0 + _ ≤ List.length _; simp))) rfl ⟨[⟨⟨#[82, 49]⟩, ⟨#[120]⟩, v, [], []⟩], kq, hkq, ALe.pv (PLe.sl ⟨⟨PLe.refl, PLe.refl, PLe.refl, PLe.nil, PLe.nil, trivial⟩, trivial⟩), rfl⟩
  · simp only [List.length_cons] at hl
    repeat' (first | (refine app_whole ?_) | (refine lit_idx (by assumption) (by assumption) (fun kx hkx => ?_)) | (refine lit_load rfl (by assumption) rfl (fun y => ?_)) | (refine lits_load rfl (by assumption) rfl (fun y => ?_)) | (refine row_at rfl (by assumption) (fun xr hxr => ?_)) | ((change vcFun _ _ _ _ _; refine call_oddtime 0 ⟨1, 0, 0, 1⟩ rfl (by assumption) (by assumption) ?_; intro yt kq hkq)) | (refine set_at (f := Room.row) ⟨y, xr.bld, xr.seats, xr.feats, xr.closed⟩ rfl ?_) | (refine set_at (f := Room.row) ⟨xr.code, ByteArray.mk #[], xr.seats, xr.feats, xr.closed⟩ rfl ?_) | (refine set_at (f := Room.row) ⟨xr.code, xr.bld, y, xr.feats, xr.closed⟩ rfl ?_) | (refine set_atm ?_) | (refine app_consm (f := Room.row) xr rfl ?_) | (refine join_to (a := .seq (.region 5 _ _) _) (fun x : Nat × List Room => [(5, .pv (encRooms x.2))]) (fun x => [dice t x.1]) (fun x => x.1 ≤ t.length) ?_) | refine o1 ?_ | refine o2 ?_ | refine k1 ?_ | refine k2 ?_ | refine k3 ?_ | refine k4 ?_ | refine k6 ?_ | refine And.intro ?_ ?_ | (intro h; first | exact Bool.noConfusion h | exact nz _ h | exact nl h | (simp at h; done) | (simp at h; first | (exfalso; omega) | skip) | skip) | (refine (?_ : srcLen _ = rowsLen _); rfl) | exact Nat.le_of_ble_eq_true rfl | (refine (?_ : _ ≤ 140737488355328); simp [rowsLen] <;> omega) | (refine (?_ : _ ≤ 9223372036854775807); simp [rowsLen] <;> omega) | (refine (?_ : _ = rowsLen _); simp [rowsLen] <;> omega) | (change vcFun _ _ _ _ _; refine call_next 0 rfl (by assumption) (by assumption) (by omega) (by omega) ?_; intro v kq hv1 hv2 hkq) | fail)
    all_goals first
      | (exfalso; omega)
      | exact ⟨(kq, _), hkq, Ghost.trans (Ghost.freeze (s := 5) rfl rfl (by repeat' (first | refine And.intro ?_ ?_ | (show 0 + _ ≤ List.length _; simp)))) (Ghost.trans (Ghost.weak (s := 5) rfl (rooms_whole (by rw [List.length_set]; rfl))) (back [0] rfl rfl ⟨rfl, trivial⟩ (by repeat' (first | exact trivial | exact rfl | refine And.intro ?_ ?_))))⟩
      | exact ⟨(kq, r :: (l ++ [xr])), hkq, Ghost.trans (Ghost.freeze (s := 5) rfl rfl (by repeat' (first | refine And.intro ?_ ?_ | (show 0 + _ ≤ List.length _; simp)))) (Ghost.trans (Ghost.weak (s := 5) rfl (rooms_whole (m := r :: (l ++ [xr])) (by simp))) (back [0] rfl rfl ⟨rfl, trivial⟩ (by repeat' (first | exact trivial | exact rfl | refine And.intro ?_ ?_))))⟩
      | (refine ⟨(kq, (r :: l).set kx ⟨xr.code, xr.bld, xr.seats, [⟨#[98]⟩, ⟨#[97]⟩], xr.closed⟩), hkq, Ghost.trans (Ghost.shutK (i := 1) (k := kx) (c := 3) (r := xr.row) (xs := List.map Room.row (r :: l)) (x := .ms 2 1 0 2) rfl ?_ rfl (Nat.le_of_ble_eq_true rfl) rfl (by repeat' (first | (show 0 + _ ≤ List.length _; simp))) ?_ ALe.refl) (Ghost.trans (Ghost.freeze (s := 5) rfl rfl (by repeat' (first | (show 0 + _ ≤ List.length _; simp)))) (Ghost.trans (Ghost.weak (s := 5) rfl (rooms_set ⟨xr.code, xr.bld, xr.seats, [⟨#[98]⟩, ⟨#[97]⟩], xr.closed⟩ rfl rfl)) (back [0] rfl rfl ⟨rfl, trivial⟩ (by repeat' (first | exact trivial | exact rfl | refine And.intro ?_ ?_)))))⟩
         · rw [List.getElem?_map, hxr]; rfl
         · show ¬ (1 ∈ ([2] : List Nat))
           decide)
      | (refine ⟨(kq, (r :: l).set kx ⟨xr.code, xr.bld, xr.seats, xr.feats, [yt]⟩), hkq, Ghost.trans (Ghost.shutK (i := 1) (k := kx) (c := 4) (r := xr.row) (xs := List.map Room.row (r :: l)) (x := .ms 2 4 0 1) rfl ?_ rfl (Nat.le_of_ble_eq_true rfl) rfl (by repeat' (first | (show 0 + _ ≤ List.length _; simp))) ?_ ALe.refl) (Ghost.trans (Ghost.freeze (s := 5) rfl rfl (by repeat' (first | (show 0 + _ ≤ List.length _; simp)))) (Ghost.trans (Ghost.weak (s := 5) rfl (rooms_set ⟨xr.code, xr.bld, xr.seats, xr.feats, [yt]⟩ rfl rfl)) (back [0] rfl rfl ⟨rfl, trivial⟩ (by repeat' (first | exact trivial | exact rfl | refine And.intro ?_ ?_)))))⟩
         · rw [List.getElem?_map, hxr]; rfl
         · show ¬ (1 ∈ ([2] : List Nat))
           decide)
      | skip
    · refine loop_to (fun x : Nat × List (List PV) => [(5, .ms 1 5 0 (x.2.length + 1)), (7, vint .i64 x.1)]) (fun x => [dice t kq, some ⟨72, 5, false, .p (r.row :: x.2)⟩])
        (fun x => x.1 ≤ 17 ∧ x.2.length ≤ 1000 + x.1 ∧ ∀ q ∈ x.2, roomR q) (fun x => 17 - x.1) (0, l.map Room.row) ⟨by simp, by simp; omega, fun q hq => by
          obtain ⟨x, _, rfl⟩ := List.mem_map.1 hq
          exact ⟨x, PLeL.refl⟩⟩ ?_ ?_
      · exact back [0, 1] rfl rfl ⟨rfl, rfl, trivial⟩ ⟨slot_eq rfl (congrArg (fun z => AV.ms 1 5 0 (z + 1)) (List.length_map ..).symm), rfl, by repeat' (first | exact trivial)⟩
      rintro ⟨i, rs⟩ ⟨c1, c2, c3⟩
      dsimp only at c1 c2 c3 ⊢
      rcases Nat.lt_or_ge i 17 with hi | hi
      · repeat' (first | (refine bytes_one (by omega) (by omega) rfl (fun s hs => ?_)) | ((show Nat.le (ByteArray.size _ + ByteArray.size _) _; rw [hs]; exact Nat.le_of_ble_eq_true rfl)) | (refine app_cons ?_) | refine o1 ?_ | refine o2 ?_ | refine k1 ?_ | refine k2 ?_ | refine k3 ?_ | refine k4 ?_ | refine k6 ?_ | refine And.intro ?_ ?_ | (intro h; first | exact Bool.noConfusion h | exact nz _ h | exact nl h | (simp at h; done) | (simp at h; first | (exfalso; omega) | skip) | skip) | (refine (?_ : srcLen _ = rowsLen _); rfl) | refine eqv_wrap (by omega) (by omega) ?_ | refine eqv_u8 (by omega) (by omega) ?_ | (refine (?_ : _ ≤ 140737488355328); simp [rowsLen] <;> omega) | (refine (?_ : _ ≤ 9223372036854775807); simp [rowsLen] <;> omega) | (refine (?_ : _ = rowsLen _); simp [rowsLen] <;> omega) | fail)
        exact ⟨(i + 1, rs ++ [_]), ⟨by show i + 1 ≤ 17; omega, by show List.length _ ≤ 1000 + (i + 1); simp; omega, fun q hq => by
          rcases mem_app hq with hq | hq
          · exact c3 q hq
          · subst hq; exact ⟨⟨_, ⟨#[120]⟩, 1, [], []⟩, PLe.refl, PLe.refl, PLe.refl, PLe.nil, PLe.nil, trivial⟩⟩, (by show 17 - (i + 1) < 17 - i; omega), back [0, 4] rfl rfl ⟨rfl, rfl, trivial⟩ (by repeat' (first | exact trivial | exact rfl | refine And.intro ?_ ?_))⟩
      · repeat' (first | refine o1 ?_ | refine o2 ?_ | refine k1 ?_ | refine k2 ?_ | refine k3 ?_ | refine k8 ?_ | refine And.intro ?_ ?_ | (intro h; first | exact Bool.noConfusion h | exact nz _ h | exact nl h | (simp at h; done) | (simp at h; first | (exfalso; omega) | skip) | skip) | fail)
        obtain ⟨m, hm, _⟩ := rooms_ex (rs := r.row :: rs) fun q hq => by
          rcases List.mem_cons.1 hq with rfl | hq
          · exact ⟨r, PLeL.refl⟩
          · exact c3 q hq
        refine ⟨(kq, m), hkq, Ghost.trans (Ghost.freeze (s := 5) rfl rfl (by repeat' (first | (show 0 + _ ≤ List.length _; simp)))) (Ghost.trans (Ghost.weak (s := 5) (y := .pv (encRooms m)) rfl (ALe.pv (PLe.sl ?_))) (back [0] rfl rfl ⟨rfl, trivial⟩ (by repeat' (first | exact trivial | exact rfl | refine And.intro ?_ ?_))))⟩
        rw [List.drop_zero, List.take_of_length_le (by simp)]
        exact hm
    refine ⟨?_⟩
    rintro ⟨k, m⟩ c1
    dsimp only at c1 ⊢
    repeat' (first | refine o1 ?_ | refine o2 ?_ | refine k1 ?_ | refine k2 ?_ | refine k7 ?_ | fail)
    exact ret_same [0] [dice t k] rfl rfl ⟨rfl, trivial⟩ rfl ⟨m, k, c1, ALe.refl, rfl⟩

theorem c_oddrooms (t : List Int) (k : Nat) (ht : t.length ≤ 400) (hk : k ≤ t.length) (l : List Room) (hl : l.length ≤ 1000) :
    ACall Tryz.prog 76 [.ptr 0 2 0 0, .pv (encRooms l)] [dice t k] (fun r H' => ∃ (m : List Room) (k' : Nat), k' ≤ t.length ∧ r = .pv (encRooms m) ∧ H' = [dice t k']) :=
  (c_oddrooms0 t k ht hk l hl).weak fun r H' ⟨m, k', h1, h2, h3⟩ => ⟨.pv (encRooms m), h2, m, k', h1, rfl, h3⟩
end Go.Proofs.YtpnghlibmpainaaGreat.Cw

/-
  Odd examinations.
-/
namespace Go.Proofs.YtpnghlibmpainaaGreat.Cw
open Go.Cw Go.Proofs
set_option linter.unusedVariables false
set_option maxRecDepth 100000
set_option maxHeartbeats 1600000

theorem call_oddrooms {t : List Int} {k : Nat} {H : Heap} {K : AV → Heap → Prop} (i : Nat) (l : List Room) (hi : H[i]? = some (dice t k)) (ht : t.length ≤ 400) (hk : k ≤ t.length) (hl : l.length ≤ 1000)
    (hK : ∀ m k2, k2 ≤ t.length → K (.pv (encRooms m)) (H.set i (dice t k2))) : vcFun Tryz.prog 76 [.ptr i 2 0 0, .pv (encRooms l)] H K := by
  refine call_one (i := i) hi (fun _ _ => rfl) [.ptr 0 2 0 0, .pv (encRooms l)] rfl (c_oddrooms t k ht hk l hl) ?_
  rintro r H' ⟨m, k', h1, rfl, rfl⟩
  exact ⟨_, rfl, fun _ _ => rfl, fun _ _ => rfl, hK m k' h1⟩
theorem app_wholem {α : Type} {f : α → List PV} {e : α} {l : List α} {K : Go.Cw.Rows → Nat → Prop} (h : K (.p (f e :: l.map f)) ((l.map f).length + 1)) : eqv (Go.Cw.Rows.p (List.map f (e :: l))) fun rr => eqv (rowsLen rr) (K rr) :=
  ⟨_, rfl, _, by simp [rowsLen], h⟩
theorem sits_le {m : List Sitting} {n : Nat} (h : m.length = n) : ALe (.pv (.sl 4 (List.take n (List.drop 0 (List.map Sitting.row m))))) (.pv (.sl 4 (m.map Sitting.row))) := by
  rw [List.drop_zero, List.take_of_length_le (by simp [h])]
  exact ALe.refl
theorem lit4_load {α : Type} {a b c d : α} {k n : Nat} {C : α → Prop} (hn : n = 4) (hk : k < n) (ha : C a) (hb : C b) (hc : C c) (hd : C d) : ∃ r, [a, b, c, d][0 + k]? = some r ∧ C r := by
  subst hn
  match k, hk with
  | 0, _ => exact ⟨a, rfl, ha⟩
  | 1, _ => exact ⟨b, rfl, hb⟩
  | 2, _ => exact ⟨c, rfl, hc⟩
  | 3, _ => exact ⟨d, rfl, hd⟩
def xb (r e s : AV) (g : Gaps) : Option AObj := some ⟨33, 8, false, .box [r, e, s, vint .i64 g.row, vint .i64 g.day, vint .i64 g.near, vint .i64 g.days, vint .i64 g.mixed]⟩
def eb (c l f s : AV) : Option AObj := some ⟨69, 4, false, .box [c, l, f, s]⟩
def e0b : Option AObj := eb (.pv (es ⟨#[90]⟩)) (vint .i64 1) (.pv (encStrs [])) (.pv (encStrs [⟨#[115]⟩]))

theorem c_oddexamsN (t : List Int) (k : Nat) (ht : t.length ≤ 400) (hk : k ≤ t.length) (rs : List Room) (ss : List Sitting) (g : Gaps) (hr : rs.length ≤ 5) (hs : ss.length ≤ 5) :
    ACall Tryz.prog 37 [.ptr 0 2 0 0, ag (Exams.cells ⟨rs, [], ss, g⟩)] [dice t k] (fun r H' => ∃ (y : Exams) (k' : Nat), k' ≤ t.length ∧ (y.exams.length ≤ 6 ∧ y.sits.length ≤ 6) ∧ r = ag y.cells ∧ H' = [dice t k']) := by
  dsimp only [Exams.cells]
  refine acall_of tok mixed 114 rfl (fn := Tryz.f37) (c := Tryz.f37.body.getD .skip) (by kernel_rfl) (by kernel_rfl) (by kernel_rfl) rfl 1 rfl ?_
  rcases ss with _ | ⟨s0, ss⟩
  · repeat' (first | (refine join_to (a := .region 3 _ _) (fun _ : Unit => [(0, .ptr 0 2 0 0), (3, .ptr 1 8 0 0), (4, .ptr 2 8 0 0), (5, .ptr 5 4 0 0)]) (fun _ => [dice t k, xb (.pv (encRooms rs)) (slP 3 4 (List.map Exam.row ([]))) (slP 4 4 (List.map Sitting.row ([]))) g, zeroX, obP 69 4 (List.map Exam.row ([])), obP 23 4 (List.map Sitting.row ([])), e0b]) (fun _ => True) ?_) | refine o1 ?_ | refine o2 ?_ | refine k1 ?_ | refine k2 ?_ | refine And.intro ?_ ?_ | (intro h; first | exact Bool.noConfusion h | exact nz _ h | exact nl h | (simp at h; done) | (simp at h; first | (exfalso; omega) | skip) | skip) | (refine (?_ : srcLen _ = rowsLen _); rfl) | exact Nat.le_of_ble_eq_true rfl | exact (by kernel_rfl : drawOk _ _ = true) | fail)
    · exact ⟨(), trivial, Ghost.trans (Ghost.shut (i := 6) (c := 3) (x := .ms 5 1 0 1) rfl rfl rfl (by repeat' (first | (show 0 + _ ≤ List.length _; simp))) (show ¬ (6 ∈ ([5] : List Nat)) by decide) ALe.refl) (Ghost.trans (Ghost.shut (i := 6) (c := 2) (x := .pv (.val (.slice none 0 0))) rfl rfl rfl (by repeat' (first | trivial)) (show ¬ (6 ∈ ([] : List Nat)) by decide) (ALe.pv PLe.nil)) (back [0, 1, 2, 3, 4, 6] rfl rfl ⟨rfl, rfl, rfl, rfl, trivial⟩ (by repeat' (first | exact trivial | exact rfl | refine And.intro ?_ ?_))))⟩
    refine ⟨?_⟩
    rintro _ _
    dsimp only [xb, eb, e0b, slP, obP, zeroX, nilA, z0, List.map, List.length_cons, List.length_map]
    repeat' (first | (refine lit_idx (by assumption) (by assumption) (fun kx hkx => ?_)) | (refine lit_load rfl (by assumption) rfl (fun y => ?_)) | (refine lits_load rfl (by assumption) rfl (fun y => ?_)) | (refine lit4_load rfl (by assumption) ?_ ?_ ?_ ?_) | ((change vcFun _ _ _ _ _; refine call_oddrooms 0 rs rfl (by assumption) (by assumption) (by omega) ?_; intro rs2 kq hkq)) | (refine join_to (a := .seq (.region 4 _ _) _) (fun x : Nat × List Room × List Sitting × Gaps × Exam => [(0, .ptr 0 2 0 0), (3, .ptr 1 8 0 0), (4, .ptr 2 8 0 0), (5, .ptr 5 4 0 0)]) (fun x => [dice t x.1, xb (.pv (encRooms x.2.1)) (slP 3 4 (List.map Exam.row ([]))) (.pv (.sl 4 (x.2.2.1.map Sitting.row))) x.2.2.2.1, zeroX, obP 69 4 (List.map Exam.row ([])), none, eb (.pv (es x.2.2.2.2.code)) (vint .i64 x.2.2.2.2.len) (.pv (encStrs x.2.2.2.2.feats)) (.pv (encStrs x.2.2.2.2.studs))]) (fun x => x.1 ≤ t.length ∧ x.2.2.1.length ≤ 6) ?_) | refine o1 ?_ | refine o2 ?_ | refine k1 ?_ | refine k2 ?_ | refine k3 ?_ | refine k4 ?_ | refine k6 ?_ | refine And.intro ?_ ?_ | refine o3 ?_ | refine o4 ?_ | (intro h; first | exact Bool.noConfusion h | exact nz _ h | exact nl h | (simp at h; done) | (simp at h; first | (exfalso; omega) | skip) | skip) | (refine (?_ : srcLen _ = rowsLen _); rfl) | exact Nat.le_of_ble_eq_true rfl | exact (by kernel_rfl : drawOk _ _ = true) | refine eqv_to _ (app_first rfl) (eqv_to 1 rfl ?_) | (change vcFun _ _ _ _ _; refine call_next 0 rfl (by assumption) (by assumption) (by omega) (by omega) ?_; intro v kq hv1 hv2 hkq) | (change vcFunD _ _ _ _ _; refine callD_next 0 rfl (by assumption) (by assumption) (by omega) (by omega) ?_; intro v kq hv1 hv2 hkq) | fail)
    · exact ⟨(kq, rs2, [], g, ⟨⟨#[90]⟩, 1, [], [⟨#[115]⟩]⟩), ⟨hkq, (by show List.length _ ≤ 6; simp; try omega)⟩, Ghost.trans (Ghost.shut (i := 1) (c := 2) (x := .pv (.val (.slice none 0 0))) rfl rfl rfl (by repeat' (first | trivial)) (show ¬ (1 ∈ ([] : List Nat)) by decide) (ALe.pv PLe.nil)) (back [0, 1, 2, 3, 4, 5] rfl rfl ⟨rfl, rfl, rfl, rfl, trivial⟩ (by repeat' (first | exact trivial | exact rfl | refine And.intro ?_ ?_)))⟩
    · exact ⟨(kq, rs, [], g, ⟨y, 1, [], [⟨#[115]⟩]⟩), ⟨hkq, (by show List.length _ ≤ 6; simp; try omega)⟩, Ghost.trans (Ghost.shut (i := 1) (c := 2) (x := .pv (.val (.slice none 0 0))) rfl rfl rfl (by repeat' (first | trivial)) (show ¬ (1 ∈ ([] : List Nat)) by decide) (ALe.pv PLe.nil)) (back [0, 1, 2, 3, 4, 5] rfl rfl ⟨rfl, rfl, rfl, rfl, trivial⟩ (by repeat' (first | exact trivial | exact rfl | refine And.intro ?_ ?_)))⟩
    · exact ⟨(kq, rs, [], g, ⟨⟨#[90]⟩, y, [], [⟨#[115]⟩]⟩), ⟨hkq, (by show List.length _ ≤ 6; simp; try omega)⟩, Ghost.trans (Ghost.shut (i := 1) (c := 2) (x := .pv (.val (.slice none 0 0))) rfl rfl rfl (by repeat' (first | trivial)) (show ¬ (1 ∈ ([] : List Nat)) by decide) (ALe.pv PLe.nil)) (back [0, 1, 2, 3, 4, 5] rfl rfl ⟨rfl, rfl, rfl, rfl, trivial⟩ (by repeat' (first | exact trivial | exact rfl | refine And.intro ?_ ?_)))⟩
    · exact ⟨(kq, rs, [], g, ⟨⟨#[90]⟩, 1, [], []⟩), ⟨hkq, (by show List.length _ ≤ 6; simp; try omega)⟩, Ghost.trans (Ghost.shut (i := 5) (c := 3) (x := .pv (.val (.slice none 0 0))) rfl rfl rfl (by repeat' (first | trivial)) (show ¬ (5 ∈ ([] : List Nat)) by decide) (ALe.pv PLe.nil)) (Ghost.trans (Ghost.shut (i := 1) (c := 2) (x := .pv (.val (.slice none 0 0))) rfl rfl rfl (by repeat' (first | trivial)) (show ¬ (1 ∈ ([] : List Nat)) by decide) (ALe.pv PLe.nil)) (back [0, 1, 2, 3, 4, 5] rfl rfl ⟨rfl, rfl, rfl, rfl, trivial⟩ (by repeat' (first | exact trivial | exact rfl | refine And.intro ?_ ?_))))⟩
    · exact ⟨(kq, rs, [], g, ⟨⟨#[90]⟩, 1, [], [⟨#[98]⟩, ⟨#[97]⟩]⟩), ⟨hkq, (by show List.length _ ≤ 6; simp; try omega)⟩, Ghost.trans (Ghost.shut (i := 5) (c := 3) (x := .ms 6 1 0 2) rfl rfl rfl (by repeat' (first | (show 0 + _ ≤ List.length _; simp))) (show ¬ (5 ∈ ([6] : List Nat)) by decide) (ALe.refl)) (Ghost.trans (Ghost.shut (i := 1) (c := 2) (x := .pv (.val (.slice none 0 0))) rfl rfl rfl (by repeat' (first | trivial)) (show ¬ (1 ∈ ([] : List Nat)) by decide) (ALe.pv PLe.nil)) (back [0, 1, 2, 3, 4, 5] rfl rfl ⟨rfl, rfl, rfl, rfl, trivial⟩ (by repeat' (first | exact trivial | exact rfl | refine And.intro ?_ ?_))))⟩
    · exact ⟨(kq, rs, [], g, ⟨⟨#[90]⟩, 1, [], [⟨#[97]⟩, ⟨#[97]⟩]⟩), ⟨hkq, (by show List.length _ ≤ 6; simp; try omega)⟩, Ghost.trans (Ghost.shut (i := 5) (c := 3) (x := .ms 7 1 0 2) rfl rfl rfl (by repeat' (first | (show 0 + _ ≤ List.length _; simp))) (show ¬ (5 ∈ ([7] : List Nat)) by decide) (ALe.refl)) (Ghost.trans (Ghost.shut (i := 1) (c := 2) (x := .pv (.val (.slice none 0 0))) rfl rfl rfl (by repeat' (first | trivial)) (show ¬ (1 ∈ ([] : List Nat)) by decide) (ALe.pv PLe.nil)) (back [0, 1, 2, 3, 4, 5] rfl rfl ⟨rfl, rfl, rfl, rfl, trivial⟩ (by repeat' (first | exact trivial | exact rfl | refine And.intro ?_ ?_))))⟩
    · exact ⟨(kq, rs, [], g, ⟨⟨#[90]⟩, 1, [], [⟨#[]⟩]⟩), ⟨hkq, (by show List.length _ ≤ 6; simp; try omega)⟩, Ghost.trans (Ghost.shut (i := 5) (c := 3) (x := .ms 8 1 0 1) rfl rfl rfl (by repeat' (first | (show 0 + _ ≤ List.length _; simp))) (show ¬ (5 ∈ ([8] : List Nat)) by decide) (ALe.refl)) (Ghost.trans (Ghost.shut (i := 1) (c := 2) (x := .pv (.val (.slice none 0 0))) rfl rfl rfl (by repeat' (first | trivial)) (show ¬ (1 ∈ ([] : List Nat)) by decide) (ALe.pv PLe.nil)) (back [0, 1, 2, 3, 4, 5] rfl rfl ⟨rfl, rfl, rfl, rfl, trivial⟩ (by repeat' (first | exact trivial | exact rfl | refine And.intro ?_ ?_))))⟩
    · exact ⟨(kq, rs, [], g, ⟨⟨#[90]⟩, 1, [⟨#[120]⟩, ⟨#[120]⟩], [⟨#[115]⟩]⟩), ⟨hkq, (by show List.length _ ≤ 6; simp; try omega)⟩, Ghost.trans (Ghost.shut (i := 5) (c := 2) (x := .ms 6 1 0 2) rfl rfl rfl (by repeat' (first | (show 0 + _ ≤ List.length _; simp))) (show ¬ (5 ∈ ([6] : List Nat)) by decide) (ALe.refl)) (Ghost.trans (Ghost.shut (i := 1) (c := 2) (x := .pv (.val (.slice none 0 0))) rfl rfl rfl (by repeat' (first | trivial)) (show ¬ (1 ∈ ([] : List Nat)) by decide) (ALe.pv PLe.nil)) (back [0, 1, 2, 3, 4, 5] rfl rfl ⟨rfl, rfl, rfl, rfl, trivial⟩ (by repeat' (first | exact trivial | exact rfl | refine And.intro ?_ ?_))))⟩
    · exact ⟨(kq, rs, [⟨_, _, _, 0⟩], g, ⟨⟨#[90]⟩, 1, [], [⟨#[115]⟩]⟩), ⟨hkq, (by show List.length _ ≤ 6; simp; try omega)⟩, Ghost.trans (Ghost.shut (i := 1) (c := 2) (x := .ms 9 4 0 1) rfl rfl rfl (by repeat' (first | trivial)) (show ¬ (1 ∈ ([9] : List Nat)) by decide) (ALe.refl)) (back [0, 1, 2, 3, 4, 5] rfl rfl ⟨rfl, rfl, rfl, rfl, trivial⟩ (by repeat' (first | exact trivial | exact rfl | refine And.intro ?_ ?_)))⟩
    · exact ⟨(kq, rs, [], g, ⟨⟨#[90]⟩, 1, [], [⟨#[115]⟩]⟩), ⟨hkq, (by show List.length _ ≤ 6; simp; try omega)⟩, Ghost.trans (Ghost.shut (i := 1) (c := 2) (x := .pv (.val (.slice none 0 0))) rfl rfl rfl (by repeat' (first | trivial)) (show ¬ (1 ∈ ([] : List Nat)) by decide) (ALe.pv PLe.nil)) (back [0, 1, 2, 3, 4, 5] rfl rfl ⟨rfl, rfl, rfl, rfl, trivial⟩ (by repeat' (first | exact trivial | exact rfl | refine And.intro ?_ ?_)))⟩
    · exact ⟨(kq, rs, [], ⟨g.row, g.day, g.near, y, g.mixed⟩, ⟨⟨#[90]⟩, 1, [], [⟨#[115]⟩]⟩), ⟨hkq, (by show List.length _ ≤ 6; simp; try omega)⟩, Ghost.trans (Ghost.shut (i := 1) (c := 2) (x := .pv (.val (.slice none 0 0))) rfl rfl rfl (by repeat' (first | trivial)) (show ¬ (1 ∈ ([] : List Nat)) by decide) (ALe.pv PLe.nil)) (back [0, 1, 2, 3, 4, 5] rfl rfl ⟨rfl, rfl, rfl, rfl, trivial⟩ (by repeat' (first | exact trivial | exact rfl | refine And.intro ?_ ?_)))⟩
    · exact ⟨(kq, rs, [], ⟨y, g.day, g.near, g.days, g.mixed⟩, ⟨⟨#[90]⟩, 1, [], [⟨#[115]⟩]⟩), ⟨hkq, (by show List.length _ ≤ 6; simp; try omega)⟩, Ghost.trans (Ghost.shut (i := 1) (c := 2) (x := .pv (.val (.slice none 0 0))) rfl rfl rfl (by repeat' (first | trivial)) (show ¬ (1 ∈ ([] : List Nat)) by decide) (ALe.pv PLe.nil)) (back [0, 1, 2, 3, 4, 5] rfl rfl ⟨rfl, rfl, rfl, rfl, trivial⟩ (by repeat' (first | exact trivial | exact rfl | refine And.intro ?_ ?_)))⟩
    refine ⟨?_⟩
    rintro ⟨k, rs3, ss3, g3, e3⟩ ⟨c1, c2⟩
    dsimp only [xb, eb, e0b, slP, obP, zeroX, nilA, z0, List.map, List.length_cons, List.length_map] at c1 c2 ⊢
    repeat' (first | (refine join_to (a := .region 23 _ _) (fun _ : Unit => [(3, .ptr 1 8 0 0), (4, .ptr 2 8 0 0)]) (fun _ => [dice t k, xb (.pv (encRooms rs3)) (.pv (.sl 4 (List.map Exam.row ([e3])))) (.pv (.sl 4 (ss3.map Sitting.row))) g3, zeroX]) (fun _ => True) ?_) | refine o1 ?_ | refine o2 ?_ | refine k2 ?_ | refine And.intro ?_ ?_ | (intro h; first | exact Bool.noConfusion h | exact nz _ h | exact nl h | (simp at h; done) | (simp at h; first | (exfalso; omega) | skip) | skip) | (refine (?_ : srcLen _ = rowsLen _); rfl) | exact Nat.le_of_ble_eq_true rfl | refine eqv_to _ (app_first rfl) (eqv_to 1 rfl ?_) | fail)
    · exact ⟨(), trivial, Ghost.trans (Ghost.shut (i := 1) (c := 1) (x := .ms 7 4 0 1) rfl rfl rfl (by repeat' (first | trivial)) (show ¬ (1 ∈ ([7] : List Nat)) by decide) (ALe.refl)) (back [0, 1, 2] rfl rfl ⟨rfl, rfl, rfl, trivial⟩ (by repeat' (first | exact trivial | exact rfl | refine And.intro ?_ ?_)))⟩
    refine ⟨?_⟩
    rintro _ _
    dsimp only [xb, zeroX, nilA, z0]
    repeat' (first | refine o1 ?_ | refine o2 ?_ | refine k1 ?_ | refine k2 ?_ | refine k7 ?_ | fail)
    exact ret_obj [0] [dice t k] rfl rfl ⟨rfl, trivial⟩ (r' := ag (Exams.cells ⟨rs3, [e3], ss3, g3⟩)) rfl ⟨⟨rs3, [e3], ss3, g3⟩, k, c1, ⟨by simp <;> omega, c2⟩, rfl, rfl⟩
  · simp only [List.length_cons] at hs
    repeat' (first | (refine app_wholem ?_) | (refine join_to (a := .region 3 _ _) (fun _ : Unit => [(0, .ptr 0 2 0 0), (3, .ptr 1 8 0 0), (4, .ptr 2 8 0 0), (5, .ptr 5 4 0 0)]) (fun _ => [dice t k, xb (.pv (encRooms rs)) (slP 3 4 (List.map Exam.row ([]))) (slP 4 4 (List.map Sitting.row (s0 :: ss))) g, zeroX, obP 69 4 (List.map Exam.row ([])), obP 23 4 (List.map Sitting.row (s0 :: ss)), e0b]) (fun _ => True) ?_) | refine o1 ?_ | refine o2 ?_ | refine k1 ?_ | refine k2 ?_ | refine And.intro ?_ ?_ | (intro h; first | exact Bool.noConfusion h | exact nz _ h | exact nl h | (simp at h; done) | (simp at h; first | (exfalso; omega) | skip) | skip) | (refine (?_ : srcLen _ = rowsLen _); rfl) | exact Nat.le_of_ble_eq_true rfl | exact (by kernel_rfl : drawOk _ _ = true) | (refine (?_ : _ ≤ 140737488355328); simp [rowsLen] <;> omega) | (refine (?_ : _ ≤ 9223372036854775807); simp [rowsLen] <;> omega) | fail)
    · exact ⟨(), trivial, Ghost.trans (Ghost.shut (i := 6) (c := 3) (x := .ms 5 1 0 1) rfl rfl rfl (by repeat' (first | (show 0 + _ ≤ List.length _; simp))) (show ¬ (6 ∈ ([5] : List Nat)) by decide) ALe.refl) (Ghost.trans (Ghost.shut (i := 6) (c := 2) (x := .pv (.val (.slice none 0 0))) rfl rfl rfl (by repeat' (first | trivial)) (show ¬ (6 ∈ ([] : List Nat)) by decide) (ALe.pv PLe.nil)) (back [0, 1, 2, 3, 4, 6] rfl rfl ⟨rfl, rfl, rfl, rfl, rfl, trivial⟩ (by repeat' (first | exact trivial | exact rfl | refine And.intro ?_ ?_))))⟩
    refine ⟨?_⟩
    rintro _ _
    dsimp only [xb, eb, e0b, slP, obP, zeroX, nilA, z0, List.map, List.length_cons, List.length_map]
    repeat' (first | (refine lit_idx (by assumption) (by assumption) (fun kx hkx => ?_)) | (refine lit_load rfl (by assumption) rfl (fun y => ?_)) | (refine lits_load rfl (by assumption) rfl (fun y => ?_)) | (refine lit4_load rfl (by assumption) ?_ ?_ ?_ ?_) | ((change vcFun _ _ _ _ _; refine call_oddrooms 0 rs rfl (by assumption) (by assumption) (by omega) ?_; intro rs2 kq hkq)) | (refine app_consm (f := Sitting.row) ⟨_, _, _, 0⟩ rfl ?_) | (refine ⟨0, rfl, Nat.succ_pos _, eqv_to 0 rfl ?_⟩) | (refine ⟨_, rfl, Nat.le_of_ble_eq_true rfl, eqv_rfl ?_⟩) | (refine join_to (a := .seq (.region 4 _ _) _) (fun x : Nat × List Room × List Sitting × Gaps × Exam => [(0, .ptr 0 2 0 0), (3, .ptr 1 8 0 0), (4, .ptr 2 8 0 0), (5, .ptr 5 4 0 0)]) (fun x => [dice t x.1, xb (.pv (encRooms x.2.1)) (slP 3 4 (List.map Exam.row ([]))) (.pv (.sl 4 (x.2.2.1.map Sitting.row))) x.2.2.2.1, zeroX, obP 69 4 (List.map Exam.row ([])), none, eb (.pv (es x.2.2.2.2.code)) (vint .i64 x.2.2.2.2.len) (.pv (encStrs x.2.2.2.2.feats)) (.pv (encStrs x.2.2.2.2.studs))]) (fun x => x.1 ≤ t.length ∧ x.2.2.1.length ≤ 6) ?_) | refine o1 ?_ | refine o2 ?_ | refine k1 ?_ | refine k2 ?_ | refine k3 ?_ | refine k4 ?_ | refine And.intro ?_ ?_ | refine o3 ?_ | refine o4 ?_ | (intro h; first | exact Bool.noConfusion h | exact nz _ h | exact nl h | (simp at h; done) | (simp at h; first | (exfalso; omega) | skip) | skip) | (refine (?_ : srcLen _ = rowsLen _); rfl) | exact (by kernel_rfl : drawOk _ _ = true) | (refine (?_ : _ ≤ 140737488355328); simp [rowsLen] <;> omega) | (refine (?_ : _ ≤ 9223372036854775807); simp [rowsLen] <;> omega) | (refine (?_ : _ = rowsLen _); simp [rowsLen] <;> omega) | (change vcFun _ _ _ _ _; refine call_next 0 rfl (by assumption) (by assumption) (by omega) (by omega) ?_; intro v kq hv1 hv2 hkq) | (change vcFunD _ _ _ _ _; refine callD_next 0 rfl (by assumption) (by assumption) (by omega) (by omega) ?_; intro v kq hv1 hv2 hkq) | fail)
    · exact ⟨(kq, rs2, s0 :: ss, g, ⟨⟨#[90]⟩, 1, [], [⟨#[115]⟩]⟩), ⟨hkq, (by show List.length _ ≤ 6; simp; try omega)⟩, Ghost.trans (Ghost.shut (i := 1) (c := 2) (x := .ms 4 4 0 ((List.map Sitting.row ss).length + 1)) rfl rfl rfl (by repeat' (first | (show 0 + _ ≤ List.length _; simp))) (show ¬ (1 ∈ ([4] : List Nat)) by decide) (sits_le (m := s0 :: ss) (by simp))) (back [0, 1, 2, 3, 4, 5] rfl rfl ⟨rfl, rfl, rfl, rfl, trivial⟩ (by repeat' (first | exact trivial | exact rfl | refine And.intro ?_ ?_)))⟩
    · exact ⟨(kq, rs, s0 :: ss, g, ⟨y, 1, [], [⟨#[115]⟩]⟩), ⟨hkq, (by show List.length _ ≤ 6; simp; try omega)⟩, Ghost.trans (Ghost.shut (i := 1) (c := 2) (x := .ms 4 4 0 ((List.map Sitting.row ss).length + 1)) rfl rfl rfl (by repeat' (first | (show 0 + _ ≤ List.length _; simp))) (show ¬ (1 ∈ ([4] : List Nat)) by decide) (sits_le (m := s0 :: ss) (by simp))) (back [0, 1, 2, 3, 4, 5] rfl rfl ⟨rfl, rfl, rfl, rfl, trivial⟩ (by repeat' (first | exact trivial | exact rfl | refine And.intro ?_ ?_)))⟩
    · exact ⟨(kq, rs, s0 :: ss, g, ⟨⟨#[90]⟩, y, [], [⟨#[115]⟩]⟩), ⟨hkq, (by show List.length _ ≤ 6; simp; try omega)⟩, Ghost.trans (Ghost.shut (i := 1) (c := 2) (x := .ms 4 4 0 ((List.map Sitting.row ss).length + 1)) rfl rfl rfl (by repeat' (first | (show 0 + _ ≤ List.length _; simp))) (show ¬ (1 ∈ ([4] : List Nat)) by decide) (sits_le (m := s0 :: ss) (by simp))) (back [0, 1, 2, 3, 4, 5] rfl rfl ⟨rfl, rfl, rfl, rfl, trivial⟩ (by repeat' (first | exact trivial | exact rfl | refine And.intro ?_ ?_)))⟩
    · exact ⟨(kq, rs, s0 :: ss, g, ⟨⟨#[90]⟩, 1, [], []⟩), ⟨hkq, (by show List.length _ ≤ 6; simp; try omega)⟩, Ghost.trans (Ghost.shut (i := 5) (c := 3) (x := .pv (.val (.slice none 0 0))) rfl rfl rfl (by repeat' (first | trivial)) (show ¬ (5 ∈ ([] : List Nat)) by decide) (ALe.pv PLe.nil)) (Ghost.trans (Ghost.shut (i := 1) (c := 2) (x := .ms 4 4 0 ((List.map Sitting.row ss).length + 1)) rfl rfl rfl (by repeat' (first | (show 0 + _ ≤ List.length _; simp))) (show ¬ (1 ∈ ([4] : List Nat)) by decide) (sits_le (m := s0 :: ss) (by simp))) (back [0, 1, 2, 3, 4, 5] rfl rfl ⟨rfl, rfl, rfl, rfl, trivial⟩ (by repeat' (first | exact trivial | exact rfl | refine And.intro ?_ ?_))))⟩
    · exact ⟨(kq, rs, s0 :: ss, g, ⟨⟨#[90]⟩, 1, [], [⟨#[98]⟩, ⟨#[97]⟩]⟩), ⟨hkq, (by show List.length _ ≤ 6; simp; try omega)⟩, Ghost.trans (Ghost.shut (i := 5) (c := 3) (x := .ms 6 1 0 2) rfl rfl rfl (by repeat' (first | (show 0 + _ ≤ List.length _; simp))) (show ¬ (5 ∈ ([6] : List Nat)) by decide) (ALe.refl)) (Ghost.trans (Ghost.shut (i := 1) (c := 2) (x := .ms 4 4 0 ((List.map Sitting.row ss).length + 1)) rfl rfl rfl (by repeat' (first | (show 0 + _ ≤ List.length _; simp))) (show ¬ (1 ∈ ([4] : List Nat)) by decide) (sits_le (m := s0 :: ss) (by simp))) (back [0, 1, 2, 3, 4, 5] rfl rfl ⟨rfl, rfl, rfl, rfl, trivial⟩ (by repeat' (first | exact trivial | exact rfl | refine And.intro ?_ ?_))))⟩
    · exact ⟨(kq, rs, s0 :: ss, g, ⟨⟨#[90]⟩, 1, [], [⟨#[97]⟩, ⟨#[97]⟩]⟩), ⟨hkq, (by show List.length _ ≤ 6; simp; try omega)⟩, Ghost.trans (Ghost.shut (i := 5) (c := 3) (x := .ms 7 1 0 2) rfl rfl rfl (by repeat' (first | (show 0 + _ ≤ List.length _; simp))) (show ¬ (5 ∈ ([7] : List Nat)) by decide) (ALe.refl)) (Ghost.trans (Ghost.shut (i := 1) (c := 2) (x := .ms 4 4 0 ((List.map Sitting.row ss).length + 1)) rfl rfl rfl (by repeat' (first | (show 0 + _ ≤ List.length _; simp))) (show ¬ (1 ∈ ([4] : List Nat)) by decide) (sits_le (m := s0 :: ss) (by simp))) (back [0, 1, 2, 3, 4, 5] rfl rfl ⟨rfl, rfl, rfl, rfl, trivial⟩ (by repeat' (first | exact trivial | exact rfl | refine And.intro ?_ ?_))))⟩
    · exact ⟨(kq, rs, s0 :: ss, g, ⟨⟨#[90]⟩, 1, [], [⟨#[]⟩]⟩), ⟨hkq, (by show List.length _ ≤ 6; simp; try omega)⟩, Ghost.trans (Ghost.shut (i := 5) (c := 3) (x := .ms 8 1 0 1) rfl rfl rfl (by repeat' (first | (show 0 + _ ≤ List.length _; simp))) (show ¬ (5 ∈ ([8] : List Nat)) by decide) (ALe.refl)) (Ghost.trans (Ghost.shut (i := 1) (c := 2) (x := .ms 4 4 0 ((List.map Sitting.row ss).length + 1)) rfl rfl rfl (by repeat' (first | (show 0 + _ ≤ List.length _; simp))) (show ¬ (1 ∈ ([4] : List Nat)) by decide) (sits_le (m := s0 :: ss) (by simp))) (back [0, 1, 2, 3, 4, 5] rfl rfl ⟨rfl, rfl, rfl, rfl, trivial⟩ (by repeat' (first | exact trivial | exact rfl | refine And.intro ?_ ?_))))⟩
    · exact ⟨(kq, rs, s0 :: ss, g, ⟨⟨#[90]⟩, 1, [⟨#[120]⟩, ⟨#[120]⟩], [⟨#[115]⟩]⟩), ⟨hkq, (by show List.length _ ≤ 6; simp; try omega)⟩, Ghost.trans (Ghost.shut (i := 5) (c := 2) (x := .ms 6 1 0 2) rfl rfl rfl (by repeat' (first | (show 0 + _ ≤ List.length _; simp))) (show ¬ (5 ∈ ([6] : List Nat)) by decide) (ALe.refl)) (Ghost.trans (Ghost.shut (i := 1) (c := 2) (x := .ms 4 4 0 ((List.map Sitting.row ss).length + 1)) rfl rfl rfl (by repeat' (first | (show 0 + _ ≤ List.length _; simp))) (show ¬ (1 ∈ ([4] : List Nat)) by decide) (sits_le (m := s0 :: ss) (by simp))) (back [0, 1, 2, 3, 4, 5] rfl rfl ⟨rfl, rfl, rfl, rfl, trivial⟩ (by repeat' (first | exact trivial | exact rfl | refine And.intro ?_ ?_))))⟩
    · exact ⟨(kq, rs, s0 :: (ss ++ [⟨_, _, _, 0⟩]), g, ⟨⟨#[90]⟩, 1, [], [⟨#[115]⟩]⟩), ⟨hkq, (by show List.length _ ≤ 6; simp; try omega)⟩, Ghost.trans (Ghost.shut (i := 1) (c := 2) (x := .ms 9 4 0 ((List.map Sitting.row (ss ++ [_])).length + 1)) rfl rfl rfl (by repeat' (first | (show 0 + _ ≤ List.length _; simp))) (show ¬ (1 ∈ ([9] : List Nat)) by decide) (sits_le (m := s0 :: (ss ++ [_])) (by simp))) (back [0, 1, 2, 3, 4, 5] rfl rfl ⟨rfl, rfl, rfl, rfl, trivial⟩ (by repeat' (first | exact trivial | exact rfl | refine And.intro ?_ ?_)))⟩
    · exact ⟨(kq, rs, ⟨s0.day, s0.start, s0.len, y⟩ :: ss, g, ⟨⟨#[90]⟩, 1, [], [⟨#[115]⟩]⟩), ⟨hkq, (by show List.length _ ≤ 6; simp; try omega)⟩, Ghost.trans (Ghost.shut (i := 1) (c := 2) (x := .ms 4 4 0 ((List.map Sitting.row ss).length + 1)) rfl rfl rfl (by repeat' (first | (show 0 + _ ≤ List.length _; simp))) (show ¬ (1 ∈ ([4] : List Nat)) by decide) (sits_le (m := ⟨s0.day, s0.start, s0.len, y⟩ :: ss) (by simp))) (back [0, 1, 2, 3, 4, 5] rfl rfl ⟨rfl, rfl, rfl, rfl, trivial⟩ (by repeat' (first | exact trivial | exact rfl | refine And.intro ?_ ?_)))⟩
    · exact ⟨(kq, rs, s0 :: ss, ⟨g.row, g.day, g.near, y, g.mixed⟩, ⟨⟨#[90]⟩, 1, [], [⟨#[115]⟩]⟩), ⟨hkq, (by show List.length _ ≤ 6; simp; try omega)⟩, Ghost.trans (Ghost.shut (i := 1) (c := 2) (x := .ms 4 4 0 ((List.map Sitting.row ss).length + 1)) rfl rfl rfl (by repeat' (first | (show 0 + _ ≤ List.length _; simp))) (show ¬ (1 ∈ ([4] : List Nat)) by decide) (sits_le (m := s0 :: ss) (by simp))) (back [0, 1, 2, 3, 4, 5] rfl rfl ⟨rfl, rfl, rfl, rfl, trivial⟩ (by repeat' (first | exact trivial | exact rfl | refine And.intro ?_ ?_)))⟩
    · exact ⟨(kq, rs, s0 :: ss, ⟨y, g.day, g.near, g.days, g.mixed⟩, ⟨⟨#[90]⟩, 1, [], [⟨#[115]⟩]⟩), ⟨hkq, (by show List.length _ ≤ 6; simp; try omega)⟩, Ghost.trans (Ghost.shut (i := 1) (c := 2) (x := .ms 4 4 0 ((List.map Sitting.row ss).length + 1)) rfl rfl rfl (by repeat' (first | (show 0 + _ ≤ List.length _; simp))) (show ¬ (1 ∈ ([4] : List Nat)) by decide) (sits_le (m := s0 :: ss) (by simp))) (back [0, 1, 2, 3, 4, 5] rfl rfl ⟨rfl, rfl, rfl, rfl, trivial⟩ (by repeat' (first | exact trivial | exact rfl | refine And.intro ?_ ?_)))⟩
    refine ⟨?_⟩
    rintro ⟨k, rs3, ss3, g3, e3⟩ ⟨c1, c2⟩
    dsimp only [xb, eb, e0b, slP, obP, zeroX, nilA, z0, List.map, List.length_cons, List.length_map] at c1 c2 ⊢
    repeat' (first | (refine join_to (a := .region 23 _ _) (fun _ : Unit => [(3, .ptr 1 8 0 0), (4, .ptr 2 8 0 0)]) (fun _ => [dice t k, xb (.pv (encRooms rs3)) (.pv (.sl 4 (List.map Exam.row ([e3])))) (.pv (.sl 4 (ss3.map Sitting.row))) g3, zeroX]) (fun _ => True) ?_) | refine o1 ?_ | refine o2 ?_ | refine k2 ?_ | refine And.intro ?_ ?_ | (intro h; first | exact Bool.noConfusion h | exact nz _ h | exact nl h | (simp at h; done) | (simp at h; first | (exfalso; omega) | skip) | skip) | (refine (?_ : srcLen _ = rowsLen _); rfl) | exact Nat.le_of_ble_eq_true rfl | refine eqv_to _ (app_first rfl) (eqv_to 1 rfl ?_) | fail)
    · exact ⟨(), trivial, Ghost.trans (Ghost.shut (i := 1) (c := 1) (x := .ms 7 4 0 1) rfl rfl rfl (by repeat' (first | trivial)) (show ¬ (1 ∈ ([7] : List Nat)) by decide) (ALe.refl)) (back [0, 1, 2] rfl rfl ⟨rfl, rfl, rfl, trivial⟩ (by repeat' (first | exact trivial | exact rfl | refine And.intro ?_ ?_)))⟩
    refine ⟨?_⟩
    rintro _ _
    dsimp only [xb, zeroX, nilA, z0]
    repeat' (first | refine o1 ?_ | refine o2 ?_ | refine k1 ?_ | refine k2 ?_ | refine k7 ?_ | fail)
    exact ret_obj [0] [dice t k] rfl rfl ⟨rfl, trivial⟩ (r' := ag (Exams.cells ⟨rs3, [e3], ss3, g3⟩)) rfl ⟨⟨rs3, [e3], ss3, g3⟩, k, c1, ⟨by simp <;> omega, c2⟩, rfl, rfl⟩
theorem c_oddexamsC (t : List Int) (k : Nat) (ht : t.length ≤ 400) (hk : k ≤ t.length) (rs : List Room) (e1 : Exam) (el : List Exam) (ss : List Sitting) (g : Gaps) (hr : rs.length ≤ 5) (he : (e1 :: el).length ≤ 5) (hs : ss.length ≤ 5) :
    ACall Tryz.prog 37 [.ptr 0 2 0 0, ag (Exams.cells ⟨rs, e1 :: el, ss, g⟩)] [dice t k] (fun r H' => ∃ (y : Exams) (k' : Nat), k' ≤ t.length ∧ (y.exams.length ≤ 6 ∧ y.sits.length ≤ 6) ∧ r = ag y.cells ∧ H' = [dice t k']) := by
  dsimp only [Exams.cells]
  simp only [List.length_cons] at he
  refine acall_of tok mixed 114 rfl (fn := Tryz.f37) (c := Tryz.f37.body.getD .skip) (by kernel_rfl) (by kernel_rfl) (by kernel_rfl) rfl 1 rfl ?_
  rcases ss with _ | ⟨s0, ss⟩
  · repeat' (first | (refine app_wholem ?_) | (refine join_to (a := .region 3 _ _) (fun _ : Unit => [(0, .ptr 0 2 0 0), (3, .ptr 1 8 0 0), (4, .ptr 2 8 0 0), (5, .ptr 5 4 0 0)]) (fun _ => [dice t k, xb (.pv (encRooms rs)) (slP 3 4 (List.map Exam.row (e1 :: el))) (slP 4 4 (List.map Sitting.row ([]))) g, zeroX, obP 69 4 (List.map Exam.row (e1 :: el)), obP 23 4 (List.map Sitting.row ([])), e0b]) (fun _ => True) ?_) | refine o1 ?_ | refine o2 ?_ | refine k1 ?_ | refine k2 ?_ | refine And.intro ?_ ?_ | (intro h; first | exact Bool.noConfusion h | exact nz _ h | exact nl h | (simp at h; done) | (simp at h; first | (exfalso; omega) | skip) | skip) | (refine (?_ : srcLen _ = rowsLen _); rfl) | exact Nat.le_of_ble_eq_true rfl | exact (by kernel_rfl : drawOk _ _ = true) | (refine (?_ : _ ≤ 140737488355328); simp [rowsLen] <;> omega) | (refine (?_ : _ ≤ 9223372036854775807); simp [rowsLen] <;> omega) | fail)
    · exact ⟨(), trivial, Ghost.trans (Ghost.shut (i := 6) (c := 3) (x := .ms 5 1 0 1) rfl rfl rfl (by repeat' (first | (show 0 + _ ≤ List.length _; simp))) (show ¬ (6 ∈ ([5] : List Nat)) by decide) ALe.refl) (Ghost.trans (Ghost.shut (i := 6) (c := 2) (x := .pv (.val (.slice none 0 0))) rfl rfl rfl (by repeat' (first | trivial)) (show ¬ (6 ∈ ([] : List Nat)) by decide) (ALe.pv PLe.nil)) (back [0, 1, 2, 3, 4, 6] rfl rfl ⟨rfl, rfl, rfl, rfl, rfl, trivial⟩ (by repeat' (first | exact trivial | exact rfl | refine And.intro ?_ ?_))))⟩
    refine ⟨?_⟩
    rintro _ _
    dsimp only [xb, eb, e0b, slP, obP, zeroX, nilA, z0, List.map, List.length_cons, List.length_map]
    repeat' (first | (refine lit_idx (by assumption) (by assumption) (fun kx hkx => ?_)) | (refine lit_load rfl (by assumption) rfl (fun y => ?_)) | (refine lits_load rfl (by assumption) rfl (fun y => ?_)) | (refine lit4_load rfl (by assumption) ?_ ?_ ?_ ?_) | ((change vcFun _ _ _ _ _; refine call_oddrooms 0 rs rfl (by assumption) (by assumption) (by omega) ?_; intro rs2 kq hkq)) | (refine join_to (a := .seq (.region 4 _ _) _) (fun x : Nat × List Room × List Sitting × Gaps × Exam => [(0, .ptr 0 2 0 0), (3, .ptr 1 8 0 0), (4, .ptr 2 8 0 0), (5, .ptr 5 4 0 0)]) (fun x => [dice t x.1, xb (.pv (encRooms x.2.1)) (slP 3 4 (List.map Exam.row (e1 :: el))) (.pv (.sl 4 (x.2.2.1.map Sitting.row))) x.2.2.2.1, zeroX, obP 69 4 (List.map Exam.row (e1 :: el)), none, eb (.pv (es x.2.2.2.2.code)) (vint .i64 x.2.2.2.2.len) (.pv (encStrs x.2.2.2.2.feats)) (.pv (encStrs x.2.2.2.2.studs))]) (fun x => x.1 ≤ t.length ∧ x.2.2.1.length ≤ 6) ?_) | refine o1 ?_ | refine o2 ?_ | refine k1 ?_ | refine k2 ?_ | refine k3 ?_ | refine k4 ?_ | refine k6 ?_ | refine And.intro ?_ ?_ | refine o3 ?_ | refine o4 ?_ | (intro h; first | exact Bool.noConfusion h | exact nz _ h | exact nl h | (simp at h; done) | (simp at h; first | (exfalso; omega) | skip) | skip) | (refine (?_ : srcLen _ = rowsLen _); rfl) | exact Nat.le_of_ble_eq_true rfl | exact (by kernel_rfl : drawOk _ _ = true) | refine eqv_to _ (app_first rfl) (eqv_to 1 rfl ?_) | (change vcFun _ _ _ _ _; refine call_next 0 rfl (by assumption) (by assumption) (by omega) (by omega) ?_; intro v kq hv1 hv2 hkq) | (change vcFunD _ _ _ _ _; refine callD_next 0 rfl (by assumption) (by assumption) (by omega) (by omega) ?_; intro v kq hv1 hv2 hkq) | fail)
    · exact ⟨(kq, rs2, [], g, ⟨⟨#[90]⟩, 1, [], [⟨#[115]⟩]⟩), ⟨hkq, (by show List.length _ ≤ 6; simp; try omega)⟩, Ghost.trans (Ghost.shut (i := 1) (c := 2) (x := .pv (.val (.slice none 0 0))) rfl rfl rfl (by repeat' (first | trivial)) (show ¬ (1 ∈ ([] : List Nat)) by decide) (ALe.pv PLe.nil)) (back [0, 1, 2, 3, 4, 5] rfl rfl ⟨rfl, rfl, rfl, rfl, rfl, trivial⟩ (by repeat' (first | exact trivial | exact rfl | refine And.intro ?_ ?_)))⟩
    · exact ⟨(kq, rs, [], g, ⟨y, 1, [], [⟨#[115]⟩]⟩), ⟨hkq, (by show List.length _ ≤ 6; simp; try omega)⟩, Ghost.trans (Ghost.shut (i := 1) (c := 2) (x := .pv (.val (.slice none 0 0))) rfl rfl rfl (by repeat' (first | trivial)) (show ¬ (1 ∈ ([] : List Nat)) by decide) (ALe.pv PLe.nil)) (back [0, 1, 2, 3, 4, 5] rfl rfl ⟨rfl, rfl, rfl, rfl, rfl, trivial⟩ (by repeat' (first | exact trivial | exact rfl | refine And.intro ?_ ?_)))⟩
    · exact ⟨(kq, rs, [], g, ⟨⟨#[90]⟩, y, [], [⟨#[115]⟩]⟩), ⟨hkq, (by show List.length _ ≤ 6; simp; try omega)⟩, Ghost.trans (Ghost.shut (i := 1) (c := 2) (x := .pv (.val (.slice none 0 0))) rfl rfl rfl (by repeat' (first | trivial)) (show ¬ (1 ∈ ([] : List Nat)) by decide) (ALe.pv PLe.nil)) (back [0, 1, 2, 3, 4, 5] rfl rfl ⟨rfl, rfl, rfl, rfl, rfl, trivial⟩ (by repeat' (first | exact trivial | exact rfl | refine And.intro ?_ ?_)))⟩
    · exact ⟨(kq, rs, [], g, ⟨⟨#[90]⟩, 1, [], []⟩), ⟨hkq, (by show List.length _ ≤ 6; simp; try omega)⟩, Ghost.trans (Ghost.shut (i := 5) (c := 3) (x := .pv (.val (.slice none 0 0))) rfl rfl rfl (by repeat' (first | trivial)) (show ¬ (5 ∈ ([] : List Nat)) by decide) (ALe.pv PLe.nil)) (Ghost.trans (Ghost.shut (i := 1) (c := 2) (x := .pv (.val (.slice none 0 0))) rfl rfl rfl (by repeat' (first | trivial)) (show ¬ (1 ∈ ([] : List Nat)) by decide) (ALe.pv PLe.nil)) (back [0, 1, 2, 3, 4, 5] rfl rfl ⟨rfl, rfl, rfl, rfl, rfl, trivial⟩ (by repeat' (first | exact trivial | exact rfl | refine And.intro ?_ ?_))))⟩
    · exact ⟨(kq, rs, [], g, ⟨⟨#[90]⟩, 1, [], [⟨#[98]⟩, ⟨#[97]⟩]⟩), ⟨hkq, (by show List.length _ ≤ 6; simp; try omega)⟩, Ghost.trans (Ghost.shut (i := 5) (c := 3) (x := .ms 6 1 0 2) rfl rfl rfl (by repeat' (first | (show 0 + _ ≤ List.length _; simp))) (show ¬ (5 ∈ ([6] : List Nat)) by decide) (ALe.refl)) (Ghost.trans (Ghost.shut (i := 1) (c := 2) (x := .pv (.val (.slice none 0 0))) rfl rfl rfl (by repeat' (first | trivial)) (show ¬ (1 ∈ ([] : List Nat)) by decide) (ALe.pv PLe.nil)) (back [0, 1, 2, 3, 4, 5] rfl rfl ⟨rfl, rfl, rfl, rfl, rfl, trivial⟩ (by repeat' (first | exact trivial | exact rfl | refine And.intro ?_ ?_))))⟩
    · exact ⟨(kq, rs, [], g, ⟨⟨#[90]⟩, 1, [], [⟨#[97]⟩, ⟨#[97]⟩]⟩), ⟨hkq, (by show List.length _ ≤ 6; simp; try omega)⟩, Ghost.trans (Ghost.shut (i := 5) (c := 3) (x := .ms 7 1 0 2) rfl rfl rfl (by repeat' (first | (show 0 + _ ≤ List.length _; simp))) (show ¬ (5 ∈ ([7] : List Nat)) by decide) (ALe.refl)) (Ghost.trans (Ghost.shut (i := 1) (c := 2) (x := .pv (.val (.slice none 0 0))) rfl rfl rfl (by repeat' (first | trivial)) (show ¬ (1 ∈ ([] : List Nat)) by decide) (ALe.pv PLe.nil)) (back [0, 1, 2, 3, 4, 5] rfl rfl ⟨rfl, rfl, rfl, rfl, rfl, trivial⟩ (by repeat' (first | exact trivial | exact rfl | refine And.intro ?_ ?_))))⟩
    · exact ⟨(kq, rs, [], g, ⟨⟨#[90]⟩, 1, [], [⟨#[]⟩]⟩), ⟨hkq, (by show List.length _ ≤ 6; simp; try omega)⟩, Ghost.trans (Ghost.shut (i := 5) (c := 3) (x := .ms 8 1 0 1) rfl rfl rfl (by repeat' (first | (show 0 + _ ≤ List.length _; simp))) (show ¬ (5 ∈ ([8] : List Nat)) by decide) (ALe.refl)) (Ghost.trans (Ghost.shut (i := 1) (c := 2) (x := .pv (.val (.slice none 0 0))) rfl rfl rfl (by repeat' (first | trivial)) (show ¬ (1 ∈ ([] : List Nat)) by decide) (ALe.pv PLe.nil)) (back [0, 1, 2, 3, 4, 5] rfl rfl ⟨rfl, rfl, rfl, rfl, rfl, trivial⟩ (by repeat' (first | exact trivial | exact rfl | refine And.intro ?_ ?_))))⟩
    · exact ⟨(kq, rs, [], g, ⟨⟨#[90]⟩, 1, [⟨#[120]⟩, ⟨#[120]⟩], [⟨#[115]⟩]⟩), ⟨hkq, (by show List.length _ ≤ 6; simp; try omega)⟩, Ghost.trans (Ghost.shut (i := 5) (c := 2) (x := .ms 6 1 0 2) rfl rfl rfl (by repeat' (first | (show 0 + _ ≤ List.length _; simp))) (show ¬ (5 ∈ ([6] : List Nat)) by decide) (ALe.refl)) (Ghost.trans (Ghost.shut (i := 1) (c := 2) (x := .pv (.val (.slice none 0 0))) rfl rfl rfl (by repeat' (first | trivial)) (show ¬ (1 ∈ ([] : List Nat)) by decide) (ALe.pv PLe.nil)) (back [0, 1, 2, 3, 4, 5] rfl rfl ⟨rfl, rfl, rfl, rfl, rfl, trivial⟩ (by repeat' (first | exact trivial | exact rfl | refine And.intro ?_ ?_))))⟩
    · exact ⟨(kq, rs, [⟨_, _, _, 0⟩], g, ⟨⟨#[90]⟩, 1, [], [⟨#[115]⟩]⟩), ⟨hkq, (by show List.length _ ≤ 6; simp; try omega)⟩, Ghost.trans (Ghost.shut (i := 1) (c := 2) (x := .ms 9 4 0 1) rfl rfl rfl (by repeat' (first | trivial)) (show ¬ (1 ∈ ([9] : List Nat)) by decide) (ALe.refl)) (back [0, 1, 2, 3, 4, 5] rfl rfl ⟨rfl, rfl, rfl, rfl, rfl, trivial⟩ (by repeat' (first | exact trivial | exact rfl | refine And.intro ?_ ?_)))⟩
    · exact ⟨(kq, rs, [], g, ⟨⟨#[90]⟩, 1, [], [⟨#[115]⟩]⟩), ⟨hkq, (by show List.length _ ≤ 6; simp; try omega)⟩, Ghost.trans (Ghost.shut (i := 1) (c := 2) (x := .pv (.val (.slice none 0 0))) rfl rfl rfl (by repeat' (first | trivial)) (show ¬ (1 ∈ ([] : List Nat)) by decide) (ALe.pv PLe.nil)) (back [0, 1, 2, 3, 4, 5] rfl rfl ⟨rfl, rfl, rfl, rfl, rfl, trivial⟩ (by repeat' (first | exact trivial | exact rfl | refine And.intro ?_ ?_)))⟩
    · exact ⟨(kq, rs, [], ⟨g.row, g.day, g.near, y, g.mixed⟩, ⟨⟨#[90]⟩, 1, [], [⟨#[115]⟩]⟩), ⟨hkq, (by show List.length _ ≤ 6; simp; try omega)⟩, Ghost.trans (Ghost.shut (i := 1) (c := 2) (x := .pv (.val (.slice none 0 0))) rfl rfl rfl (by repeat' (first | trivial)) (show ¬ (1 ∈ ([] : List Nat)) by decide) (ALe.pv PLe.nil)) (back [0, 1, 2, 3, 4, 5] rfl rfl ⟨rfl, rfl, rfl, rfl, rfl, trivial⟩ (by repeat' (first | exact trivial | exact rfl | refine And.intro ?_ ?_)))⟩
    · exact ⟨(kq, rs, [], ⟨y, g.day, g.near, g.days, g.mixed⟩, ⟨⟨#[90]⟩, 1, [], [⟨#[115]⟩]⟩), ⟨hkq, (by show List.length _ ≤ 6; simp; try omega)⟩, Ghost.trans (Ghost.shut (i := 1) (c := 2) (x := .pv (.val (.slice none 0 0))) rfl rfl rfl (by repeat' (first | trivial)) (show ¬ (1 ∈ ([] : List Nat)) by decide) (ALe.pv PLe.nil)) (back [0, 1, 2, 3, 4, 5] rfl rfl ⟨rfl, rfl, rfl, rfl, rfl, trivial⟩ (by repeat' (first | exact trivial | exact rfl | refine And.intro ?_ ?_)))⟩
    refine ⟨?_⟩
    rintro ⟨k, rs3, ss3, g3, e3⟩ ⟨c1, c2⟩
    dsimp only [xb, eb, e0b, slP, obP, zeroX, nilA, z0, List.map, List.length_cons, List.length_map] at c1 c2 ⊢
    repeat' (first | (refine app_consm (f := Exam.row) e3 rfl ?_) | (refine join_to (a := .region 23 _ _) (fun _ : Unit => [(3, .ptr 1 8 0 0), (4, .ptr 2 8 0 0)]) (fun _ => [dice t k, xb (.pv (encRooms rs3)) (.pv (.sl 4 (List.map Exam.row ((e1 :: el) ++ [e3])))) (.pv (.sl 4 (ss3.map Sitting.row))) g3, zeroX]) (fun _ => True) ?_) | refine o1 ?_ | refine o2 ?_ | refine k2 ?_ | refine And.intro ?_ ?_ | (refine (?_ : srcLen _ = rowsLen _); rfl) | (refine (?_ : _ ≤ 140737488355328); simp [rowsLen] <;> omega) | (refine (?_ : _ ≤ 9223372036854775807); simp [rowsLen] <;> omega) | (refine (?_ : _ = rowsLen _); simp [rowsLen] <;> omega) | fail)
    · refine ⟨(), trivial, Ghost.trans (Ghost.shut (i := 1) (c := 1) (x := .ms 7 4 0 ((List.map Exam.row (el ++ [e3])).length + 1)) rfl rfl rfl (by repeat' (first | (show 0 + _ ≤ List.length _; simp))) (show ¬ (1 ∈ ([7] : List Nat)) by decide) (ALe.pv (PLe.sl (?_ : PLeLL _ (List.map Exam.row ((e1 :: el) ++ [e3])))))) (back [0, 1, 2] rfl rfl ⟨rfl, rfl, rfl, trivial⟩ (by repeat' (first | exact trivial | exact rfl | refine And.intro ?_ ?_)))⟩
      rw [List.drop_zero, List.take_of_length_le (by simp)]
      exact PLeLL.refl
    refine ⟨?_⟩
    rintro _ _
    dsimp only [xb, zeroX, nilA, z0]
    repeat' (first | refine o1 ?_ | refine o2 ?_ | refine k1 ?_ | refine k2 ?_ | refine k7 ?_ | fail)
    exact ret_obj [0] [dice t k] rfl rfl ⟨rfl, trivial⟩ (r' := ag (Exams.cells ⟨rs3, (e1 :: el) ++ [e3], ss3, g3⟩)) rfl ⟨⟨rs3, (e1 :: el) ++ [e3], ss3, g3⟩, k, c1, ⟨by simp <;> omega, c2⟩, rfl, rfl⟩
  · simp only [List.length_cons] at hs
    repeat' (first | (refine app_wholem ?_) | (refine join_to (a := .region 3 _ _) (fun _ : Unit => [(0, .ptr 0 2 0 0), (3, .ptr 1 8 0 0), (4, .ptr 2 8 0 0), (5, .ptr 5 4 0 0)]) (fun _ => [dice t k, xb (.pv (encRooms rs)) (slP 3 4 (List.map Exam.row (e1 :: el))) (slP 4 4 (List.map Sitting.row (s0 :: ss))) g, zeroX, obP 69 4 (List.map Exam.row (e1 :: el)), obP 23 4 (List.map Sitting.row (s0 :: ss)), e0b]) (fun _ => True) ?_) | refine o1 ?_ | refine o2 ?_ | refine k1 ?_ | refine k2 ?_ | refine And.intro ?_ ?_ | (intro h; first | exact Bool.noConfusion h | exact nz _ h | exact nl h | (simp at h; done) | (simp at h; first | (exfalso; omega) | skip) | skip) | (refine (?_ : srcLen _ = rowsLen _); rfl) | exact (by kernel_rfl : drawOk _ _ = true) | (refine (?_ : _ ≤ 140737488355328); simp [rowsLen] <;> omega) | (refine (?_ : _ ≤ 9223372036854775807); simp [rowsLen] <;> omega) | fail)
    · exact ⟨(), trivial, Ghost.trans (Ghost.shut (i := 6) (c := 3) (x := .ms 5 1 0 1) rfl rfl rfl (by repeat' (first | (show 0 + _ ≤ List.length _; simp))) (show ¬ (6 ∈ ([5] : List Nat)) by decide) ALe.refl) (Ghost.trans (Ghost.shut (i := 6) (c := 2) (x := .pv (.val (.slice none 0 0))) rfl rfl rfl (by repeat' (first | trivial)) (show ¬ (6 ∈ ([] : List Nat)) by decide) (ALe.pv PLe.nil)) (back [0, 1, 2, 3, 4, 6] rfl rfl ⟨rfl, rfl, rfl, rfl, rfl, rfl, trivial⟩ (by repeat' (first | exact trivial | exact rfl | refine And.intro ?_ ?_))))⟩
    refine ⟨?_⟩
    rintro _ _
    dsimp only [xb, eb, e0b, slP, obP, zeroX, nilA, z0, List.map, List.length_cons, List.length_map]
    repeat' (first | (refine lit_idx (by assumption) (by assumption) (fun kx hkx => ?_)) | (refine lit_load rfl (by assumption) rfl (fun y => ?_)) | (refine lits_load rfl (by assumption) rfl (fun y => ?_)) | (refine lit4_load rfl (by assumption) ?_ ?_ ?_ ?_) | ((change vcFun _ _ _ _ _; refine call_oddrooms 0 rs rfl (by assumption) (by assumption) (by omega) ?_; intro rs2 kq hkq)) | (refine app_consm (f := Sitting.row) ⟨_, _, _, 0⟩ rfl ?_) | (refine ⟨0, rfl, Nat.succ_pos _, eqv_to 0 rfl ?_⟩) | (refine ⟨_, rfl, Nat.le_of_ble_eq_true rfl, eqv_rfl ?_⟩) | (refine join_to (a := .seq (.region 4 _ _) _) (fun x : Nat × List Room × List Sitting × Gaps × Exam => [(0, .ptr 0 2 0 0), (3, .ptr 1 8 0 0), (4, .ptr 2 8 0 0), (5, .ptr 5 4 0 0)]) (fun x => [dice t x.1, xb (.pv (encRooms x.2.1)) (slP 3 4 (List.map Exam.row (e1 :: el))) (.pv (.sl 4 (x.2.2.1.map Sitting.row))) x.2.2.2.1, zeroX, obP 69 4 (List.map Exam.row (e1 :: el)), none, eb (.pv (es x.2.2.2.2.code)) (vint .i64 x.2.2.2.2.len) (.pv (encStrs x.2.2.2.2.feats)) (.pv (encStrs x.2.2.2.2.studs))]) (fun x => x.1 ≤ t.length ∧ x.2.2.1.length ≤ 6) ?_) | refine o1 ?_ | refine o2 ?_ | refine k1 ?_ | refine k2 ?_ | refine k3 ?_ | refine k4 ?_ | refine And.intro ?_ ?_ | refine o3 ?_ | refine o4 ?_ | (intro h; first | exact Bool.noConfusion h | exact nz _ h | exact nl h | (simp at h; done) | (simp at h; first | (exfalso; omega) | skip) | skip) | (refine (?_ : srcLen _ = rowsLen _); rfl) | exact (by kernel_rfl : drawOk _ _ = true) | (refine (?_ : _ ≤ 140737488355328); simp [rowsLen] <;> omega) | (refine (?_ : _ ≤ 9223372036854775807); simp [rowsLen] <;> omega) | (refine (?_ : _ = rowsLen _); simp [rowsLen] <;> omega) | (change vcFun _ _ _ _ _; refine call_next 0 rfl (by assumption) (by assumption) (by omega) (by omega) ?_; intro v kq hv1 hv2 hkq) | (change vcFunD _ _ _ _ _; refine callD_next 0 rfl (by assumption) (by assumption) (by omega) (by omega) ?_; intro v kq hv1 hv2 hkq) | fail)
    · exact ⟨(kq, rs2, s0 :: ss, g, ⟨⟨#[90]⟩, 1, [], [⟨#[115]⟩]⟩), ⟨hkq, (by show List.length _ ≤ 6; simp; try omega)⟩, Ghost.trans (Ghost.shut (i := 1) (c := 2) (x := .ms 4 4 0 ((List.map Sitting.row ss).length + 1)) rfl rfl rfl (by repeat' (first | (show 0 + _ ≤ List.length _; simp))) (show ¬ (1 ∈ ([4] : List Nat)) by decide) (sits_le (m := s0 :: ss) (by simp))) (back [0, 1, 2, 3, 4, 5] rfl rfl ⟨rfl, rfl, rfl, rfl, rfl, trivial⟩ (by repeat' (first | exact trivial | exact rfl | refine And.intro ?_ ?_)))⟩
    · exact ⟨(kq, rs, s0 :: ss, g, ⟨y, 1, [], [⟨#[115]⟩]⟩), ⟨hkq, (by show List.length _ ≤ 6; simp; try omega)⟩, Ghost.trans (Ghost.shut (i := 1) (c := 2) (x := .ms 4 4 0 ((List.map Sitting.row ss).length + 1)) rfl rfl rfl (by repeat' (first | (show 0 + _ ≤ List.length _; simp))) (show ¬ (1 ∈ ([4] : List Nat)) by decide) (sits_le (m := s0 :: ss) (by simp))) (back [0, 1, 2, 3, 4, 5] rfl rfl ⟨rfl, rfl, rfl, rfl, rfl, trivial⟩ (by repeat' (first | exact trivial | exact rfl | refine And.intro ?_ ?_)))⟩
    · exact ⟨(kq, rs, s0 :: ss, g, ⟨⟨#[90]⟩, y, [], [⟨#[115]⟩]⟩), ⟨hkq, (by show List.length _ ≤ 6; simp; try omega)⟩, Ghost.trans (Ghost.shut (i := 1) (c := 2) (x := .ms 4 4 0 ((List.map Sitting.row ss).length + 1)) rfl rfl rfl (by repeat' (first | (show 0 + _ ≤ List.length _; simp))) (show ¬ (1 ∈ ([4] : List Nat)) by decide) (sits_le (m := s0 :: ss) (by simp))) (back [0, 1, 2, 3, 4, 5] rfl rfl ⟨rfl, rfl, rfl, rfl, rfl, trivial⟩ (by repeat' (first | exact trivial | exact rfl | refine And.intro ?_ ?_)))⟩
    · exact ⟨(kq, rs, s0 :: ss, g, ⟨⟨#[90]⟩, 1, [], []⟩), ⟨hkq, (by show List.length _ ≤ 6; simp; try omega)⟩, Ghost.trans (Ghost.shut (i := 5) (c := 3) (x := .pv (.val (.slice none 0 0))) rfl rfl rfl (by repeat' (first | trivial)) (show ¬ (5 ∈ ([] : List Nat)) by decide) (ALe.pv PLe.nil)) (Ghost.trans (Ghost.shut (i := 1) (c := 2) (x := .ms 4 4 0 ((List.map Sitting.row ss).length + 1)) rfl rfl rfl (by repeat' (first | (show 0 + _ ≤ List.length _; simp))) (show ¬ (1 ∈ ([4] : List Nat)) by decide) (sits_le (m := s0 :: ss) (by simp))) (back [0, 1, 2, 3, 4, 5] rfl rfl ⟨rfl, rfl, rfl, rfl, rfl, trivial⟩ (by repeat' (first | exact trivial | exact rfl | refine And.intro ?_ ?_))))⟩
    · exact ⟨(kq, rs, s0 :: ss, g, ⟨⟨#[90]⟩, 1, [], [⟨#[98]⟩, ⟨#[97]⟩]⟩), ⟨hkq, (by show List.length _ ≤ 6; simp; try omega)⟩, Ghost.trans (Ghost.shut (i := 5) (c := 3) (x := .ms 6 1 0 2) rfl rfl rfl (by repeat' (first | (show 0 + _ ≤ List.length _; simp))) (show ¬ (5 ∈ ([6] : List Nat)) by decide) (ALe.refl)) (Ghost.trans (Ghost.shut (i := 1) (c := 2) (x := .ms 4 4 0 ((List.map Sitting.row ss).length + 1)) rfl rfl rfl (by repeat' (first | (show 0 + _ ≤ List.length _; simp))) (show ¬ (1 ∈ ([4] : List Nat)) by decide) (sits_le (m := s0 :: ss) (by simp))) (back [0, 1, 2, 3, 4, 5] rfl rfl ⟨rfl, rfl, rfl, rfl, rfl, trivial⟩ (by repeat' (first | exact trivial | exact rfl | refine And.intro ?_ ?_))))⟩
    · exact ⟨(kq, rs, s0 :: ss, g, ⟨⟨#[90]⟩, 1, [], [⟨#[97]⟩, ⟨#[97]⟩]⟩), ⟨hkq, (by show List.length _ ≤ 6; simp; try omega)⟩, Ghost.trans (Ghost.shut (i := 5) (c := 3) (x := .ms 7 1 0 2) rfl rfl rfl (by repeat' (first | (show 0 + _ ≤ List.length _; simp))) (show ¬ (5 ∈ ([7] : List Nat)) by decide) (ALe.refl)) (Ghost.trans (Ghost.shut (i := 1) (c := 2) (x := .ms 4 4 0 ((List.map Sitting.row ss).length + 1)) rfl rfl rfl (by repeat' (first | (show 0 + _ ≤ List.length _; simp))) (show ¬ (1 ∈ ([4] : List Nat)) by decide) (sits_le (m := s0 :: ss) (by simp))) (back [0, 1, 2, 3, 4, 5] rfl rfl ⟨rfl, rfl, rfl, rfl, rfl, trivial⟩ (by repeat' (first | exact trivial | exact rfl | refine And.intro ?_ ?_))))⟩
    · exact ⟨(kq, rs, s0 :: ss, g, ⟨⟨#[90]⟩, 1, [], [⟨#[]⟩]⟩), ⟨hkq, (by show List.length _ ≤ 6; simp; try omega)⟩, Ghost.trans (Ghost.shut (i := 5) (c := 3) (x := .ms 8 1 0 1) rfl rfl rfl (by repeat' (first | (show 0 + _ ≤ List.length _; simp))) (show ¬ (5 ∈ ([8] : List Nat)) by decide) (ALe.refl)) (Ghost.trans (Ghost.shut (i := 1) (c := 2) (x := .ms 4 4 0 ((List.map Sitting.row ss).length + 1)) rfl rfl rfl (by repeat' (first | (show 0 + _ ≤ List.length _; simp))) (show ¬ (1 ∈ ([4] : List Nat)) by decide) (sits_le (m := s0 :: ss) (by simp))) (back [0, 1, 2, 3, 4, 5] rfl rfl ⟨rfl, rfl, rfl, rfl, rfl, trivial⟩ (by repeat' (first | exact trivial | exact rfl | refine And.intro ?_ ?_))))⟩
    · exact ⟨(kq, rs, s0 :: ss, g, ⟨⟨#[90]⟩, 1, [⟨#[120]⟩, ⟨#[120]⟩], [⟨#[115]⟩]⟩), ⟨hkq, (by show List.length _ ≤ 6; simp; try omega)⟩, Ghost.trans (Ghost.shut (i := 5) (c := 2) (x := .ms 6 1 0 2) rfl rfl rfl (by repeat' (first | (show 0 + _ ≤ List.length _; simp))) (show ¬ (5 ∈ ([6] : List Nat)) by decide) (ALe.refl)) (Ghost.trans (Ghost.shut (i := 1) (c := 2) (x := .ms 4 4 0 ((List.map Sitting.row ss).length + 1)) rfl rfl rfl (by repeat' (first | (show 0 + _ ≤ List.length _; simp))) (show ¬ (1 ∈ ([4] : List Nat)) by decide) (sits_le (m := s0 :: ss) (by simp))) (back [0, 1, 2, 3, 4, 5] rfl rfl ⟨rfl, rfl, rfl, rfl, rfl, trivial⟩ (by repeat' (first | exact trivial | exact rfl | refine And.intro ?_ ?_))))⟩
    · exact ⟨(kq, rs, s0 :: (ss ++ [⟨_, _, _, 0⟩]), g, ⟨⟨#[90]⟩, 1, [], [⟨#[115]⟩]⟩), ⟨hkq, (by show List.length _ ≤ 6; simp; try omega)⟩, Ghost.trans (Ghost.shut (i := 1) (c := 2) (x := .ms 9 4 0 ((List.map Sitting.row (ss ++ [_])).length + 1)) rfl rfl rfl (by repeat' (first | (show 0 + _ ≤ List.length _; simp))) (show ¬ (1 ∈ ([9] : List Nat)) by decide) (sits_le (m := s0 :: (ss ++ [_])) (by simp))) (back [0, 1, 2, 3, 4, 5] rfl rfl ⟨rfl, rfl, rfl, rfl, rfl, trivial⟩ (by repeat' (first | exact trivial | exact rfl | refine And.intro ?_ ?_)))⟩
    · exact ⟨(kq, rs, ⟨s0.day, s0.start, s0.len, y⟩ :: ss, g, ⟨⟨#[90]⟩, 1, [], [⟨#[115]⟩]⟩), ⟨hkq, (by show List.length _ ≤ 6; simp; try omega)⟩, Ghost.trans (Ghost.shut (i := 1) (c := 2) (x := .ms 4 4 0 ((List.map Sitting.row ss).length + 1)) rfl rfl rfl (by repeat' (first | (show 0 + _ ≤ List.length _; simp))) (show ¬ (1 ∈ ([4] : List Nat)) by decide) (sits_le (m := ⟨s0.day, s0.start, s0.len, y⟩ :: ss) (by simp))) (back [0, 1, 2, 3, 4, 5] rfl rfl ⟨rfl, rfl, rfl, rfl, rfl, trivial⟩ (by repeat' (first | exact trivial | exact rfl | refine And.intro ?_ ?_)))⟩
    · exact ⟨(kq, rs, s0 :: ss, ⟨g.row, g.day, g.near, y, g.mixed⟩, ⟨⟨#[90]⟩, 1, [], [⟨#[115]⟩]⟩), ⟨hkq, (by show List.length _ ≤ 6; simp; try omega)⟩, Ghost.trans (Ghost.shut (i := 1) (c := 2) (x := .ms 4 4 0 ((List.map Sitting.row ss).length + 1)) rfl rfl rfl (by repeat' (first | (show 0 + _ ≤ List.length _; simp))) (show ¬ (1 ∈ ([4] : List Nat)) by decide) (sits_le (m := s0 :: ss) (by simp))) (back [0, 1, 2, 3, 4, 5] rfl rfl ⟨rfl, rfl, rfl, rfl, rfl, trivial⟩ (by repeat' (first | exact trivial | exact rfl | refine And.intro ?_ ?_)))⟩
    · exact ⟨(kq, rs, s0 :: ss, ⟨y, g.day, g.near, g.days, g.mixed⟩, ⟨⟨#[90]⟩, 1, [], [⟨#[115]⟩]⟩), ⟨hkq, (by show List.length _ ≤ 6; simp; try omega)⟩, Ghost.trans (Ghost.shut (i := 1) (c := 2) (x := .ms 4 4 0 ((List.map Sitting.row ss).length + 1)) rfl rfl rfl (by repeat' (first | (show 0 + _ ≤ List.length _; simp))) (show ¬ (1 ∈ ([4] : List Nat)) by decide) (sits_le (m := s0 :: ss) (by simp))) (back [0, 1, 2, 3, 4, 5] rfl rfl ⟨rfl, rfl, rfl, rfl, rfl, trivial⟩ (by repeat' (first | exact trivial | exact rfl | refine And.intro ?_ ?_)))⟩
    refine ⟨?_⟩
    rintro ⟨k, rs3, ss3, g3, e3⟩ ⟨c1, c2⟩
    dsimp only [xb, eb, e0b, slP, obP, zeroX, nilA, z0, List.map, List.length_cons, List.length_map] at c1 c2 ⊢
    repeat' (first | (refine app_consm (f := Exam.row) e3 rfl ?_) | (refine join_to (a := .region 23 _ _) (fun _ : Unit => [(3, .ptr 1 8 0 0), (4, .ptr 2 8 0 0)]) (fun _ => [dice t k, xb (.pv (encRooms rs3)) (.pv (.sl 4 (List.map Exam.row ((e1 :: el) ++ [e3])))) (.pv (.sl 4 (ss3.map Sitting.row))) g3, zeroX]) (fun _ => True) ?_) | refine o1 ?_ | refine o2 ?_ | refine k2 ?_ | refine And.intro ?_ ?_ | (refine (?_ : srcLen _ = rowsLen _); rfl) | (refine (?_ : _ ≤ 140737488355328); simp [rowsLen] <;> omega) | (refine (?_ : _ ≤ 9223372036854775807); simp [rowsLen] <;> omega) | (refine (?_ : _ = rowsLen _); simp [rowsLen] <;> omega) | fail)
    · refine ⟨(), trivial, Ghost.trans (Ghost.shut (i := 1) (c := 1) (x := .ms 7 4 0 ((List.map Exam.row (el ++ [e3])).length + 1)) rfl rfl rfl (by repeat' (first | (show 0 + _ ≤ List.length _; simp))) (show ¬ (1 ∈ ([7] : List Nat)) by decide) (ALe.pv (PLe.sl (?_ : PLeLL _ (List.map Exam.row ((e1 :: el) ++ [e3])))))) (back [0, 1, 2] rfl rfl ⟨rfl, rfl, rfl, trivial⟩ (by repeat' (first | exact trivial | exact rfl | refine And.intro ?_ ?_)))⟩
      rw [List.drop_zero, List.take_of_length_le (by simp)]
      exact PLeLL.refl
    refine ⟨?_⟩
    rintro _ _
    dsimp only [xb, zeroX, nilA, z0]
    repeat' (first | refine o1 ?_ | refine o2 ?_ | refine k1 ?_ | refine k2 ?_ | refine k7 ?_ | fail)
    exact ret_obj [0] [dice t k] rfl rfl ⟨rfl, trivial⟩ (r' := ag (Exams.cells ⟨rs3, (e1 :: el) ++ [e3], ss3, g3⟩)) rfl ⟨⟨rs3, (e1 :: el) ++ [e3], ss3, g3⟩, k, c1, ⟨by simp <;> omega, c2⟩, rfl, rfl⟩
theorem c_oddexams (t : List Int) (k : Nat) (ht : t.length ≤ 400) (hk : k ≤ t.length) (x : Exams) (hr : x.rooms.length ≤ 5) (he : x.exams.length ≤ 5) (hs : x.sits.length ≤ 5) :
    ACall Tryz.prog 37 [.ptr 0 2 0 0, ag x.cells] [dice t k] (fun r H' => ∃ (y : Exams) (k' : Nat), k' ≤ t.length ∧ (y.exams.length ≤ 6 ∧ y.sits.length ≤ 6) ∧ r = ag y.cells ∧ H' = [dice t k']) := by
  obtain ⟨rs, el, ss, g⟩ := x
  rcases el with _ | ⟨e1, el⟩
  · exact c_oddexamsN t k ht hk rs ss g hr hs
  · exact c_oddexamsC t k ht hk rs e1 el ss g hr he hs
end Go.Proofs.YtpnghlibmpainaaGreat.Cw

/-
  Examinations of a law: some, short.
-/
namespace Go.Proofs.YtpnghlibmpainaaGreat.Cw
open Go.Cw Go.Proofs
set_option linter.unusedVariables false
set_option maxRecDepth 100000
set_option maxHeartbeats 1600000

theorem call_made {t : List Int} {k : Nat} {H : Heap} {K : AV → Heap → Prop} (i : Nat) (hi : H[i]? = some (dice t k)) (ht : t.length ≤ 400) (hk : k ≤ t.length)
    (hK : ∀ (x : Exams) k2, k2 ≤ t.length → x.rooms.length ≤ 5 → x.exams.length ≤ 5 → x.sits.length ≤ 5 → K (ag x.cells) (H.set i (dice t k2))) : vcFun Tryz.prog 24 [.ptr i 2 0 0] H K := by
  refine call_one (i := i) hi (fun _ _ => rfl) [.ptr 0 2 0 0] rfl (c_made t k ht hk) ?_
  rintro r H' ⟨y, k', h1, ⟨h2, h3, h4⟩, rfl, rfl⟩
  exact ⟨_, rfl, fun _ _ => rfl, fun _ _ => rfl, hK y k' h1 h2 h3 h4⟩
theorem call_oddexams {t : List Int} {k : Nat} {H : Heap} {K : AV → Heap → Prop} (i : Nat) (x : Exams) (hi : H[i]? = some (dice t k)) (ht : t.length ≤ 400) (hk : k ≤ t.length) (h1 : x.rooms.length ≤ 5) (h2 : x.exams.length ≤ 5) (h3 : x.sits.length ≤ 5)
    (hK : ∀ (y : Exams) k2, k2 ≤ t.length → y.exams.length ≤ 6 → y.sits.length ≤ 6 → K (ag y.cells) (H.set i (dice t k2))) : vcFun Tryz.prog 37 [.ptr i 2 0 0, ag x.cells] H K := by
  refine call_one (i := i) hi (fun _ _ => rfl) [.ptr 0 2 0 0, ag x.cells] rfl (c_oddexams t k ht hk x h1 h2 h3) ?_
  rintro r H' ⟨y, k', h1, ⟨h2, h3⟩, rfl, rfl⟩
  exact ⟨_, rfl, fun _ _ => rfl, fun _ _ => rfl, hK y k' h1 h2 h3⟩

theorem c_some (t : List Int) (k : Nat) (ht : t.length ≤ 400) (hk : k ≤ t.length) :
    ACall Tryz.prog 10 [.ptr 0 2 0 0] [dice t k] (fun r H' => ∃ (y : Exams) (k' : Nat), k' ≤ t.length ∧ (y.exams.length ≤ 6 ∧ y.sits.length ≤ 6) ∧ r = ag y.cells ∧ H' = [dice t k']) := by
  refine acall_of tok mixed 12 rfl (fn := Tryz.f10) (c := Tryz.f10.body.getD .skip) (by kernel_rfl) (by kernel_rfl) (by kernel_rfl) rfl 1 rfl ?_
  repeat' (first | ((change vcFun _ _ _ _ _; refine call_made 0 rfl (by assumption) (by assumption) ?_; intro x kx hkx hx1 hx2 hx3)) | ((change vcFun _ _ _ _ _; refine call_oddexams 0 x rfl (by assumption) (by assumption) (by assumption) (by assumption) (by assumption) ?_; intro y ky hky hy1 hy2)) | refine o1 ?_ | refine o2 ?_ | refine k1 ?_ | refine k2 ?_ | refine k3 ?_ | refine k4 ?_ | refine k6 ?_ | refine k7 ?_ | refine k8 ?_ | refine And.intro ?_ ?_ | exact trivial | refine o3 ?_ | refine o4 ?_ | refine o5 ?_ | refine o6 ?_ | refine k5 ?_ | (intro h; first | exact Bool.noConfusion h | exact nz _ h | exact nl h | (simp at h; done) | (simp at h; first | (exfalso; omega) | skip) | skip) | (change retOk _ _ _ _; refine ret_pure rfl trivial ?_) | exact (rfl : allOne _ = true) | (refine (?_ : (0 : Int) ≤ _); omega) | (refine (?_ : _ ≠ _); omega) | (refine (?_ : srcLen _ = rowsLen _); rfl) | exact Nat.le_of_ble_eq_true rfl | exact (by kernel_rfl : drawOk _ _ = true) | refine eqv_len_map ?_ | refine eqv_size ?_ | refine eqv_put (eqv_ck ?_) | refine eqv_zero ?_ | refine eqv_wrap (by omega) (by omega) ?_ | refine eqv_u64 (by omega) (by omega) ?_ | refine eqv_u8 (by omega) (by omega) ?_ | refine eqv_to _ (set_map rfl rfl) ?_ | refine ⟨_, _, (by first | rfl | assumption), at_map (by assumption), ?_⟩ | refine ⟨_, _, (by first | rfl | assumption), (by assumption), ?_⟩ | refine ⟨_, at_map (by assumption), (by decide), ?_⟩ | refine ⟨_, at_map (by assumption), ?_⟩ | (refine (?_ : _ ≤ 140737488355328); simp [rowsLen] <;> omega) | (refine (?_ : _ ≤ 9223372036854775807); simp [rowsLen] <;> omega) | (refine (?_ : _ = rowsLen _); simp [rowsLen] <;> omega) | refine eqv_to _ (app_row rfl) (eqv_to _ app_len ?_) | refine eqv_to _ (app_first rfl) (eqv_to 1 rfl ?_) | refine idx_sl (at_map (by assumption)) (by omega) ?_ | refine idx_ms _ (by first | rfl | assumption) (by first | assumption | omega) ?_ | (change vcFun _ _ _ _ _; refine call_next 0 rfl (by assumption) (by assumption) (by omega) (by omega) ?_; intro v kq hv1 hv2 hkq) | (change vcFun _ _ _ _ _; refine call_one2 0 rfl (by assumption) (by assumption) (by omega) (by omega) ?_; intro bq kq hkq) | (change vcFunD _ _ _ _ _; refine callD_next 0 rfl (by assumption) (by assumption) (by omega) (by omega) ?_; intro v kq hv1 hv2 hkq) | (change vcFunD _ _ _ _ _; refine callD_one2 0 rfl (by assumption) (by assumption) (by omega) (by omega) ?_; intro bq kq hkq) | fail)
  all_goals first
    | exact ret_obj [0] [dice t ky] rfl rfl ⟨rfl, trivial⟩ (r' := ag y.cells) rfl ⟨y, ky, hky, ⟨hy1, hy2⟩, rfl, rfl⟩
    | exact ret_obj [0] [dice t kq] rfl rfl ⟨rfl, trivial⟩ (r' := ag x.cells) rfl ⟨x, kq, hkq, ⟨by omega, by omega⟩, rfl, rfl⟩

def okE (e : Exam) : Bool := decide (e.studs.length ≤ 70) && decide (e.feats.length ≤ 20)
def shortB (x : Exams) : Bool := (x.exams.take 30).all okE && (decide (x.rooms.length ≤ 20) && decide (x.exams.length ≤ 30) && decide (x.sits.length ≤ 30))
theorem short_f {x : Exams} {i : Nat} {e : Exam} (hi : i < 30) (he : x.exams[i]? = some e) (h : okE e = false) : shortB x = false := by
  unfold shortB
  rw [List.all_eq_false.2 ⟨e, List.mem_of_getElem? (i := i) (by rw [List.getElem?_take, if_pos hi]; exact he), by simp [h]⟩]
  rfl
theorem short_t {x : Exams} {i : Nat} (hi : i = 30 ∨ i = x.exams.length) (h : ∀ j, j < i → ∀ e, x.exams[j]? = some e → okE e = true) : shortB x = (decide (x.rooms.length ≤ 20) && decide (x.exams.length ≤ 30) && decide (x.sits.length ≤ 30)) := by
  unfold shortB
  rw [List.all_eq_true.2, Bool.true_and]
  intro e he
  obtain ⟨j, hj⟩ := List.getElem?_of_mem he
  rw [List.getElem?_take] at hj
  split at hj
  · have := (List.getElem?_eq_some_iff.1 hj).1
    exact h j (by omega) e hj
  · cases hj
theorem len30 (n : Nat) : decide ((n : Int) ≤ 30) = (true && true && decide (n ≤ 30)) := by
  by_cases h : n ≤ 30
  · simp [h]; omega
  · simp [h]; omega
theorem c_short (x : Exams) : PCall Tryz.prog 19 [ag x.cells] (fun r => r = vbool (shortB x)) := by
  refine acall_of tok mixed 49 rfl (fn := Tryz.f19) (c := Tryz.f19.body.getD .skip) (by kernel_rfl) (by kernel_rfl) (by kernel_rfl) rfl 0 rfl ?_
  repeat' (first | refine o1 ?_ | refine o2 ?_ | refine k1 ?_ | refine k2 ?_ | refine k3 ?_ | refine k4 ?_ | refine k6 ?_ | refine k7 ?_ | refine k8 ?_ | refine And.intro ?_ ?_ | exact trivial | refine o3 ?_ | refine o4 ?_ | refine o5 ?_ | refine o6 ?_ | refine k5 ?_ | (intro h; first | exact Bool.noConfusion h | exact nz _ h | exact nl h | (simp at h; done) | (simp at h; first | (exfalso; omega) | skip) | skip) | (change retOk _ _ _ _; refine ret_pure rfl trivial ?_) | exact (rfl : allOne _ = true) | (refine (?_ : (0 : Int) ≤ _); omega) | (refine (?_ : _ ≠ _); omega) | (refine (?_ : srcLen _ = rowsLen _); rfl) | exact Nat.le_of_ble_eq_true rfl | exact (by kernel_rfl : drawOk _ _ = true) | refine eqv_len_map ?_ | refine eqv_size ?_ | refine eqv_put (eqv_ck ?_) | refine eqv_zero ?_ | refine eqv_wrap (by omega) (by omega) ?_ | refine eqv_u64 (by omega) (by omega) ?_ | refine eqv_u8 (by omega) (by omega) ?_ | refine eqv_to _ (set_map rfl rfl) ?_ | refine ⟨_, _, (by first | rfl | assumption), at_map (by assumption), ?_⟩ | refine ⟨_, _, (by first | rfl | assumption), (by assumption), ?_⟩ | refine ⟨_, at_map (by assumption), (by decide), ?_⟩ | refine ⟨_, at_map (by assumption), ?_⟩ | (refine (?_ : _ ≤ 140737488355328); simp [rowsLen] <;> omega) | (refine (?_ : _ ≤ 9223372036854775807); simp [rowsLen] <;> omega) | (refine (?_ : _ = rowsLen _); simp [rowsLen] <;> omega) | refine eqv_to _ (app_row rfl) (eqv_to _ app_len ?_) | refine eqv_to _ (app_first rfl) (eqv_to 1 rfl ?_) | refine idx_sl (at_map (by assumption)) (by omega) ?_ | refine idx_ms _ (by first | rfl | assumption) (by first | assumption | omega) ?_ | fail)
  refine loop_at (fun i : Nat => [(3, vint .i64 i)]) (fun _ => []) (fun i => (i ≤ x.exams.length ∧ i ≤ 30) ∧ ∀ j, j < i → ∀ e, x.exams[j]? = some e → okE e = true) (fun i => 30 - i) 0 ⟨⟨by omega, by omega⟩, fun j hj => by omega⟩ (by repeat' (first | exact trivial | exact rfl | exact ⟨_, rfl, ALe.refl⟩ | refine And.intro ?_ ?_)) (by repeat' (first | exact trivial | exact rfl | exact ⟨_, rfl, ALe.refl⟩ | refine And.intro ?_ ?_)) ?_
  intro i ⟨⟨hi, hi2⟩, hall⟩
  rcases Nat.lt_or_ge i x.exams.length with hlt | hge
  · obtain ⟨e, he⟩ := getE hlt
    repeat' (first | refine o1 ?_ | refine o2 ?_ | refine k1 ?_ | refine k2 ?_ | refine k3 ?_ | refine k4 ?_ | refine k6 ?_ | refine k7 ?_ | refine k8 ?_ | refine And.intro ?_ ?_ | exact trivial | refine o3 ?_ | refine o4 ?_ | refine o5 ?_ | refine o6 ?_ | refine k5 ?_ | (intro h; first | exact Bool.noConfusion h | exact nz _ h | exact nl h | (simp at h; done) | (simp at h; first | (exfalso; omega) | skip) | skip) | (change retOk _ _ _ _; refine ret_pure rfl trivial ?_) | exact (rfl : allOne _ = true) | (refine (?_ : (0 : Int) ≤ _); omega) | (refine (?_ : _ ≠ _); omega) | (refine (?_ : srcLen _ = rowsLen _); rfl) | exact Nat.le_of_ble_eq_true rfl | exact (by kernel_rfl : drawOk _ _ = true) | refine eqv_len_map ?_ | refine eqv_size ?_ | refine eqv_put (eqv_ck ?_) | refine eqv_zero ?_ | refine eqv_wrap (by omega) (by omega) ?_ | refine eqv_u64 (by omega) (by omega) ?_ | refine eqv_u8 (by omega) (by omega) ?_ | refine eqv_to _ (set_map rfl rfl) ?_ | refine ⟨_, _, (by first | rfl | assumption), at_map (by assumption), ?_⟩ | refine ⟨_, _, (by first | rfl | assumption), (by assumption), ?_⟩ | refine ⟨_, at_map (by assumption), (by decide), ?_⟩ | refine ⟨_, at_map (by assumption), ?_⟩ | (refine (?_ : _ ≤ 140737488355328); simp [rowsLen] <;> omega) | (refine (?_ : _ ≤ 9223372036854775807); simp [rowsLen] <;> omega) | (refine (?_ : _ = rowsLen _); simp [rowsLen] <;> omega) | refine eqv_to _ (app_row rfl) (eqv_to _ app_len ?_) | refine eqv_to _ (app_first rfl) (eqv_to 1 rfl ?_) | refine idx_sl (at_map (by assumption)) (by omega) ?_ | refine idx_ms _ (by first | rfl | assumption) (by first | assumption | omega) ?_ | fail)
    all_goals first
      | (exfalso; omega)
      | (refine congrArg vbool (short_f (i := i) (by omega) he ?_).symm; unfold okE; simp <;> omega)
      | (refine ⟨i + 1, ⟨⟨by omega, by omega⟩, all_lt_succ hall ?_⟩, by omega, back [0] rfl rfl ⟨rfl, trivial⟩ (by repeat' (first | exact trivial | exact rfl | exact ⟨_, rfl, ALe.refl⟩ | refine And.intro ?_ ?_))⟩
         intro e' he'
         rw [he] at he'; injection he' with he'; subst he'
         unfold okE; simp <;> omega)
      | (rw [short_t (i := i) (by omega) hall]; refine congrArg vbool ?_; simp <;> omega)
  · repeat' (first | refine o1 ?_ | refine o2 ?_ | refine k1 ?_ | refine k2 ?_ | refine k3 ?_ | refine k4 ?_ | refine k6 ?_ | refine k7 ?_ | refine k8 ?_ | refine And.intro ?_ ?_ | exact trivial | refine o3 ?_ | refine o4 ?_ | refine o5 ?_ | refine o6 ?_ | refine k5 ?_ | (intro h; first | exact Bool.noConfusion h | exact nz _ h | exact nl h | (simp at h; done) | (simp at h; first | (exfalso; omega) | skip) | skip) | (change retOk _ _ _ _; refine ret_pure rfl trivial ?_) | exact (rfl : allOne _ = true) | (refine (?_ : (0 : Int) ≤ _); omega) | (refine (?_ : _ ≠ _); omega) | (refine (?_ : srcLen _ = rowsLen _); rfl) | exact Nat.le_of_ble_eq_true rfl | exact (by kernel_rfl : drawOk _ _ = true) | refine eqv_len_map ?_ | refine eqv_size ?_ | refine eqv_put (eqv_ck ?_) | refine eqv_zero ?_ | refine eqv_wrap (by omega) (by omega) ?_ | refine eqv_u64 (by omega) (by omega) ?_ | refine eqv_u8 (by omega) (by omega) ?_ | refine eqv_to _ (set_map rfl rfl) ?_ | refine ⟨_, _, (by first | rfl | assumption), at_map (by assumption), ?_⟩ | refine ⟨_, _, (by first | rfl | assumption), (by assumption), ?_⟩ | refine ⟨_, at_map (by assumption), (by decide), ?_⟩ | refine ⟨_, at_map (by assumption), ?_⟩ | (refine (?_ : _ ≤ 140737488355328); simp [rowsLen] <;> omega) | (refine (?_ : _ ≤ 9223372036854775807); simp [rowsLen] <;> omega) | (refine (?_ : _ = rowsLen _); simp [rowsLen] <;> omega) | refine eqv_to _ (app_row rfl) (eqv_to _ app_len ?_) | refine eqv_to _ (app_first rfl) (eqv_to 1 rfl ?_) | refine idx_sl (at_map (by assumption)) (by omega) ?_ | refine idx_ms _ (by first | rfl | assumption) (by first | assumption | omega) ?_ | fail)
    all_goals first
      | (exfalso; omega)
      | (rw [short_t (i := i) (by omega) hall]; refine congrArg vbool ?_; simp <;> omega)
      | (rw [short_t (i := i) (by omega) hall, decide_eq_true (show x.rooms.length ≤ 20 by omega), decide_eq_true (show x.exams.length ≤ 30 by omega)]; exact congrArg vbool (len30 _))
end Go.Proofs.YtpnghlibmpainaaGreat.Cw
