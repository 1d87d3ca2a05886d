/-
  Part 7 of the proof (M6, M7, G3, M8, G4, S0, G5, G6, G7, X3): what later parts use. No conditions.
-/
import Derived.Test.YtpnghlibmpainaaGreatMC6

/-
  Contracts: valid models.
-/
namespace Go.Proofs.YtpnghlibmpainaaGreat.Cw
open Go.Cw Go.Proofs
set_option linter.unusedVariables false
set_option maxRecDepth 100000
set_option maxHeartbeats 1600000

theorem c_valid1 (m : Model) (o : Opt) (ho : o.charges.length ≤ 9223372036854775807) : PCall Tryz.prog 55 [ag o.row, .pv (.ia m.cells)] (fun r => r = vbool (pB (¬ chargesP m o))) := by
  refine acall_of tok mixed 8 rfl (fn := Tryz.f55) (c := Tryz.f55.body.getD .skip) (by kernel_rfl) (by kernel_rfl) (by kernel_rfl) rfl 0 rfl ?_
  repeat' (first | refine o1 ?_ | refine o2 ?_ | refine k1 ?_ | refine k2 ?_ | refine k7 ?_ | (change retOk _ _ _ _; refine ret_pure rfl trivial ?_) | (change vcFun _ _ _ _ _; refine call_eq rfl (by repeat' (first | trivial | refine And.intro ?_ ?_ | (show 0 + _ ≤ List.length _; simp))) ALeL.refl (c_charged m o ho) rfl ?_) | fail)
  all_goals first
    | exact congrArg vbool (pB_eq (by simp))
theorem c_valid2 (m : Model) (c : Count) (hc : c.loads.length ≤ 9223372036854775807) : PCall Tryz.prog 60 [ag c.row, .pv (.ia m.cells)] (fun r => r = vbool (pB (¬ countP_ m c))) := by
  refine acall_of tok mixed 8 rfl (fn := Tryz.f60) (c := Tryz.f60.body.getD .skip) (by kernel_rfl) (by kernel_rfl) (by kernel_rfl) rfl 0 rfl ?_
  repeat' (first | refine o1 ?_ | refine o2 ?_ | refine k1 ?_ | refine k2 ?_ | refine k7 ?_ | (change retOk _ _ _ _; refine ret_pure rfl trivial ?_) | (change vcFun _ _ _ _ _; refine call_eq rfl (by repeat' (first | trivial | refine And.intro ?_ ?_ | (show 0 + _ ≤ List.length _; simp))) ALeL.refl (c_counted m c hc) rfl ?_) | fail)
  all_goals first
    | exact congrArg vbool (pB_eq (by simp))
theorem all_mem {α : Type} {l : List α} {p : α → Prop} {n : Nat} (hn : l.length ≤ n) (h : ∀ j, j < n → ∀ x, l[j]? = some x → p x) : ∀ x ∈ l, p x := fun x hx => by
  obtain ⟨j, hj⟩ := List.getElem?_of_mem hx
  exact h j (by have := (List.getElem?_eq_some_iff.1 hj).1; omega) x hj
theorem good_c {m : Model} (g : goodP m) {i : Nat} {l : List Opt} (hl : m.classes[i]? = some l) : ∀ o ∈ l, chargesP m o := g.1 l (List.mem_of_getElem? hl)
theorem c_valid (m : Model) (hl : Laid m) : PCall Tryz.prog 23 [ag m.cells] (fun r => r = vint .i64 (modelE m)) := by
  by_cases hz : sizedP m
  · refine acall_of tok mixed 52 rfl (fn := Tryz.f23) (c := Tryz.f23.body.getD .skip) (by kernel_rfl) (by kernel_rfl) (by kernel_rfl) rfl 0 rfl ?_
    have hcn := hz.1
    have hpn := hz.2.2.1
    have hon := hz.2.2.2.1
    repeat' (first | refine o1 ?_ | refine o2 ?_ | refine k1 ?_ | refine k2 ?_ | refine k3 ?_ | refine k4 ?_ | refine k6 ?_ | refine k7 ?_ | refine And.intro ?_ ?_ | (intro h; first | exact Bool.noConfusion h | exact nz _ h | exact nl h | (simp at h; done) | (simp at h; first | (exfalso; omega) | skip) | skip) | (change retOk _ _ _ _; refine ret_pure rfl trivial ?_) | refine eqv_len_map ?_ | (change vcFun _ _ _ _ _; refine call_eq rfl (by repeat' (first | trivial | refine And.intro ?_ ?_ | (show 0 + _ ≤ List.length _; simp))) ALeL.refl (c_large m) rfl ?_) | fail)
    all_goals first
      | (exfalso; exact (by assumption : ¬ sizedP m) hz)
      | skip
    refine loop_at (fun i : Nat => [(12, vint .i64 i)]) (fun _ => []) (fun i => i ≤ m.classes.length ∧ ∀ j, j < i → ∀ l, m.classes[j]? = some l → ∀ o ∈ l, chargesP m o) (fun i => m.classes.length - i) 0 ⟨by omega, fun j hj => by omega⟩ (by repeat' (first | exact trivial | exact ⟨_, rfl, ALe.refl⟩ | refine And.intro ?_ ?_)) (by repeat' (first | exact trivial | exact rfl | refine And.intro ?_ ?_)) ?_
    intro i ⟨hi, hall⟩
    rcases Nat.lt_or_ge i m.classes.length with hlt | hge
    · obtain ⟨l, hl1⟩ := getE hlt
      have hll := hz.2.1 l (List.mem_of_getElem? hl1)
      repeat' (first | refine o1 ?_ | refine o2 ?_ | refine k1 ?_ | refine k2 ?_ | refine k3 ?_ | refine k4 ?_ | refine k6 ?_ | refine k7 ?_ | refine And.intro ?_ ?_ | (intro h; first | exact Bool.noConfusion h | exact nz _ h | exact nl h | (simp at h; done) | (simp at h; first | (exfalso; omega) | skip) | skip) | (change retOk _ _ _ _; refine ret_pure rfl trivial ?_) | refine eqv_wrap (by omega) (by omega) ?_ | refine ⟨_, _, (by first | rfl | assumption), at_map (by assumption), ?_⟩ | (change vcFun _ _ _ _ _; refine call_eq rfl (by repeat' (first | trivial | refine And.intro ?_ ?_ | (show 0 + _ ≤ List.length _; simp))) ALeL.refl (c_any_opt l 55 [.ia m.cells] (fun o => pB (¬ chargesP m o)) (by omega) (fun o ho => c_valid1 m o (hl.ch l (List.mem_of_getElem? hl1) o ho))) rfl ?_) | fail)
      all_goals first
        | (refine congrArg (vint .i64) (mE1 hz fun g => ?_).symm; obtain ⟨o, ho, hno⟩ := (by assumption : ∃ x, x ∈ l ∧ ¬ chargesP m x); exact hno (good_c g hl1 o ho))
        | exact ⟨i + 1, ⟨by omega, all_lt_succ hall fun l' h' => by rw [hl1] at h'; cases h'; assumption⟩, by omega, back [0] rfl rfl ⟨rfl, trivial⟩ (by repeat' (first | exact trivial | exact rfl | refine And.intro ?_ ?_))⟩
    · have hch : ∀ l ∈ m.classes, ∀ o ∈ l, chargesP m o := fun l hl => by
        obtain ⟨j, hj⟩ := List.getElem?_of_mem hl
        exact hall j (by have := (List.getElem?_eq_some_iff.1 hj).1; omega) l hj
      repeat' (first | refine o1 ?_ | refine o2 ?_ | refine k1 ?_ | refine k2 ?_ | refine k3 ?_ | refine k4 ?_ | refine k8 ?_ | refine And.intro ?_ ?_ | (intro h; first | exact Bool.noConfusion h | exact nz _ h | exact nl h | (simp at h; done) | (simp at h; first | (exfalso; omega) | skip) | skip) | refine eqv_len_map ?_ | fail)
      refine loop_at (fun i : Nat => [(23, vint .i64 i)]) (fun _ => []) (fun i => i ≤ m.pairs.length ∧ ∀ j, j < i → pairAt m j) (fun i => m.pairs.length - i) 0 ⟨by omega, fun j hj => by omega⟩ (by repeat' (first | exact trivial | exact ⟨_, rfl, ALe.refl⟩ | refine And.intro ?_ ?_)) (by repeat' (first | exact trivial | exact rfl | refine And.intro ?_ ?_)) ?_
      intro i ⟨hi, hall2⟩
      rcases Nat.lt_or_ge i m.pairs.length with hlt | hge
      · obtain ⟨p, hp⟩ := getE hlt
        rcases i with _ | k
        · have hpz := pairAt_zero hp
          repeat' (first | (refine idx_sl (k := 0) (at_map hp) (by omega) ?_) | refine o1 ?_ | refine o2 ?_ | refine k1 ?_ | refine k2 ?_ | refine k3 ?_ | refine k4 ?_ | refine k6 ?_ | refine k7 ?_ | refine k8 ?_ | refine And.intro ?_ ?_ | refine o3 ?_ | refine o4 ?_ | (intro h; first | exact Bool.noConfusion h | exact nz _ h | exact nl h | (simp at h; done) | (simp at h; first | (exfalso; omega) | skip) | skip) | (change retOk _ _ _ _; refine ret_pure rfl trivial ?_) | exact (by kernel_rfl : drawOk _ _ = true) | refine eqv_wrap (by omega) (by omega) ?_ | (change vcFunD _ _ _ _ _; refine callD_eq rfl (by repeat' (first | trivial | refine And.intro ?_ ?_ | (show 0 + _ ≤ List.length _; simp))) ALeL.refl (c_paired m p hz) rfl ?_) | fail)
          all_goals first
            | (refine congrArg (vint .i64) (mE1 hz fun g => ?_).symm; exact absurd (hpz.1 (g.2.1 _ hlt)) (by assumption))
            | exact ⟨1, ⟨by omega, all_lt_succ hall2 (hpz.2 (by assumption))⟩, by omega, back [0] rfl rfl ⟨rfl, trivial⟩ (by repeat' (first | exact trivial | exact rfl | refine And.intro ?_ ?_))⟩
            | (exfalso; simp_all; done)
        · obtain ⟨q, hq⟩ := getE (show k < m.pairs.length by omega)
          have hpz := pairAt_next hp hq
          repeat' (first | (refine idx_sl (k := k + 1) (at_map hp) (by omega) ?_) | (refine idx_sl (k := k) (at_map hq) (by omega) ?_) | refine o1 ?_ | refine o2 ?_ | refine k1 ?_ | refine k2 ?_ | refine k3 ?_ | refine k4 ?_ | refine k6 ?_ | refine k7 ?_ | refine And.intro ?_ ?_ | refine o3 ?_ | refine o4 ?_ | (intro h; first | exact Bool.noConfusion h | exact nz _ h | exact nl h | (simp at h; done) | (simp at h; first | (exfalso; omega) | skip) | skip) | (change retOk _ _ _ _; refine ret_pure rfl trivial ?_) | exact (by kernel_rfl : drawOk _ _ = true) | refine eqv_wrap (by omega) (by omega) ?_ | (change vcFunD _ _ _ _ _; refine callD_eq rfl (by repeat' (first | trivial | refine And.intro ?_ ?_ | (show 0 + _ ≤ List.length _; simp))) ALeL.refl (c_paired m p hz) rfl ?_) | (change vcFunD _ _ _ _ _; refine callD_eq rfl (by repeat' (first | trivial | refine And.intro ?_ ?_ | (show 0 + _ ≤ List.length _; simp))) ALeL.refl (c_order q p) rfl ?_) | fail)
          all_goals first
            | (refine congrArg (vint .i64) (mE1 hz fun g => ?_).symm; have g1 := hpz.1 (g.2.1 _ hlt); first | exact absurd g1.1 (by assumption) | (have := pair_cmp.2 g1.2; omega))
            | exact ⟨k + 2, ⟨by omega, all_lt_succ hall2 (hpz.2 ⟨by assumption, pair_cmp.1 (by omega)⟩)⟩, by omega, back [0] rfl rfl ⟨rfl, trivial⟩ (by repeat' (first | exact trivial | exact rfl | refine And.intro ?_ ?_))⟩
      · have hpa : ∀ i, i < m.pairs.length → pairAt m i := fun j hj => hall2 j (by omega)
        repeat' (first | refine o1 ?_ | refine o2 ?_ | refine k1 ?_ | refine k2 ?_ | refine k3 ?_ | refine k6 ?_ | refine k7 ?_ | refine k8 ?_ | refine And.intro ?_ ?_ | (intro h; first | exact Bool.noConfusion h | exact nz _ h | exact nl h | (simp at h; done) | (simp at h; first | (exfalso; omega) | skip) | skip) | (change retOk _ _ _ _; refine ret_pure rfl trivial ?_) | (change vcFun _ _ _ _ _; refine call_eq rfl (by repeat' (first | trivial | refine And.intro ?_ ?_ | (show 0 + _ ≤ List.length _; simp))) ALeL.refl (c_any_count m.counts 60 [.ia m.cells] (fun c => pB (¬ countP_ m c)) (by omega) (fun c hc => c_valid2 m c (hl.ld c hc))) rfl ?_) | fail)
        all_goals first
          | (refine congrArg (vint .i64) (mE1 hz fun g => ?_).symm; obtain ⟨c, hc, hno⟩ := (by assumption : ∃ x, x ∈ m.counts ∧ ¬ countP_ m x); exact hno (g.2.2 c hc))
          | exact congrArg (vint .i64) (mE0 hz ⟨hch, hpa, by assumption⟩).symm
  · refine acall_of tok mixed 52 rfl (fn := Tryz.f23) (c := Tryz.f23.body.getD .skip) (by kernel_rfl) (by kernel_rfl) (by kernel_rfl) rfl 0 rfl ?_
    repeat' (first | refine o1 ?_ | refine o2 ?_ | refine k1 ?_ | refine k2 ?_ | refine k3 ?_ | refine k4 ?_ | refine k6 ?_ | refine k7 ?_ | refine And.intro ?_ ?_ | (intro h; first | exact Bool.noConfusion h | exact nz _ h | exact nl h | (simp at h; done) | (simp at h; first | (exfalso; omega) | skip) | skip) | (change retOk _ _ _ _; refine ret_pure rfl trivial ?_) | refine eqv_len_map ?_ | (change vcFun _ _ _ _ _; refine call_eq rfl (by repeat' (first | trivial | refine And.intro ?_ ?_ | (show 0 + _ ≤ List.length _; simp))) ALeL.refl (c_large m) rfl ?_) | fail)
    all_goals first
      | exact congrArg (vint .i64) (mE2 hz).symm
      | (exfalso; exact hz (by assumption))
theorem c_rvalid (m : Model) (hl : Laid m) : PCall Tryz.prog 70 [ag m.cells] (fun r => r = vint .i64 (modelE m)) := by
  by_cases hz : sizedP m
  · refine acall_of tok mixed 105 rfl (fn := Tryz.f70) (c := Tryz.f70.body.getD .skip) (by kernel_rfl) (by kernel_rfl) (by kernel_rfl) rfl 0 rfl ?_
    have hcn := hz.1
    have hpn := hz.2.2.1
    have hon := hz.2.2.2.1
    repeat' (first | refine o1 ?_ | refine o2 ?_ | refine k1 ?_ | refine k2 ?_ | refine k3 ?_ | refine k4 ?_ | refine k6 ?_ | refine k7 ?_ | refine And.intro ?_ ?_ | (intro h; first | exact Bool.noConfusion h | exact nz _ h | exact nl h | (simp at h; done) | (simp at h; first | (exfalso; omega) | skip) | skip) | (change retOk _ _ _ _; refine ret_pure rfl trivial ?_) | (change vcFun _ _ _ _ _; refine call_eq rfl (by repeat' (first | trivial | refine And.intro ?_ ?_ | (show 0 + _ ≤ List.length _; simp))) ALeL.refl (c_sized m hl) rfl ?_) | fail)
    all_goals first
      | (exfalso; exact (by assumption : ¬ sizedP m) hz)
      | skip
    refine loop_at (fun i : Nat => [(3, vint .i64 i)]) (fun _ => []) (fun i => i ≤ m.classes.length ∧ ∀ j, j < i → ∀ l, m.classes[j]? = some l → ∀ o ∈ l, chargesP m o) (fun i => m.classes.length - i) 0 ⟨by omega, fun j hj => by omega⟩ (by repeat' (first | exact trivial | exact ⟨_, rfl, ALe.refl⟩ | refine And.intro ?_ ?_)) (by repeat' (first | exact trivial | exact rfl | refine And.intro ?_ ?_)) ?_
    intro i ⟨hi, hall⟩
    rcases Nat.lt_or_ge i m.classes.length with hlt | hge
    · obtain ⟨l, hl1⟩ := getE hlt
      have hll := hz.2.1 l (List.mem_of_getElem? hl1)
      have hmem := List.mem_of_getElem? hl1
      repeat' (first | refine o1 ?_ | refine o2 ?_ | refine k1 ?_ | refine k2 ?_ | refine k3 ?_ | refine k4 ?_ | refine k6 ?_ | refine And.intro ?_ ?_ | (intro h; first | exact Bool.noConfusion h | exact nz _ h | exact nl h | (simp at h; done) | (simp at h; first | (exfalso; omega) | skip) | skip) | refine eqv_len_map ?_ | fail)
      refine loop_at (fun i : Nat => [(4, vint .i64 i)]) (fun _ => []) (fun i => i ≤ l.length ∧ ∀ j, j < i → ∀ o, l[j]? = some o → chargesP m o) (fun i => l.length - i) 0 ⟨by omega, fun j hj => by omega⟩ (by repeat' (first | exact trivial | exact ⟨_, rfl, ALe.refl⟩ | refine And.intro ?_ ?_)) (by repeat' (first | exact trivial | exact rfl | refine And.intro ?_ ?_)) ?_
      intro k ⟨hk, hallk⟩
      rcases Nat.lt_or_ge k l.length with hkl | hkg
      · obtain ⟨o, ho⟩ := getE hkl
        have hcl := hl.ch l hmem o (List.mem_of_getElem? ho)
        repeat' (first | (refine idx_sl (k := i) (at_map hl1) (by omega) ?_) | (refine idx_sl (k := k) (at_map ho) (by omega) ?_) | refine o1 ?_ | refine o2 ?_ | refine k1 ?_ | refine k2 ?_ | refine k3 ?_ | refine k4 ?_ | refine k6 ?_ | refine And.intro ?_ ?_ | (intro h; first | exact Bool.noConfusion h | exact nz _ h | exact nl h | (simp at h; done) | (simp at h; first | (exfalso; omega) | skip) | skip) | refine eqv_len_map ?_ | fail)
        refine loop_at (fun i : Nat => [(6, vint .i64 i)]) (fun _ => []) (fun i => i ≤ o.charges.length ∧ ∀ j, j < i → chargeAt m o.charges j) (fun i => o.charges.length - i) 0 ⟨by omega, fun j hj => by omega⟩ (by repeat' (first | exact trivial | exact ⟨_, rfl, ALe.refl⟩ | refine And.intro ?_ ?_)) (by repeat' (first | exact trivial | exact rfl | refine And.intro ?_ ?_)) ?_
        intro n ⟨hn, halln⟩
        rcases Nat.lt_or_ge n o.charges.length with hnl | hng
        · obtain ⟨c, hc⟩ := getE hnl
          have hgood : goodP m → chargeAt m o.charges n := fun g => good_c g hl1 o (List.mem_of_getElem? ho) n hnl
          rcases n with _ | n
          · repeat' (first | (refine idx_sl (k := 0) (at_map hc) (by omega) ?_) | refine o1 ?_ | refine o2 ?_ | refine k1 ?_ | refine k2 ?_ | refine k3 ?_ | refine k4 ?_ | refine k6 ?_ | refine k7 ?_ | refine k8 ?_ | refine And.intro ?_ ?_ | refine o3 ?_ | refine o4 ?_ | (intro h; first | exact Bool.noConfusion h | exact nz _ h | exact nl h | (simp at h; done) | (simp at h; first | (exfalso; omega) | skip) | skip) | (change retOk _ _ _ _; refine ret_pure rfl trivial ?_) | exact (by kernel_rfl : drawOk _ _ = true) | refine eqv_len_map ?_ | refine eqv_wrap (by omega) (by omega) ?_ | (change vcFunD _ _ _ _ _; refine callD_eq rfl (by repeat' (first | trivial | refine And.intro ?_ ?_ | (show 0 + _ ≤ List.length _; simp))) ALeL.refl (c_rnamed m c.rule) rfl ?_) | (change vcFunD _ _ _ _ _; refine callD_eq rfl (by repeat' (first | trivial | refine And.intro ?_ ?_ | (show 0 + _ ≤ List.length _; simp))) ALeL.refl (c_rcost c.cost) rfl ?_) | fail)
            all_goals first
              | (refine congrArg (vint .i64) (mE1 hz fun g => ?_).symm; obtain ⟨g1, g2, g3⟩ := hgood g c hc; first | exact absurd g1 (by assumption) | exact absurd g2 (by assumption))
              | exact ⟨1, ⟨by omega, all_lt_succ halln (charge_zero hc (by assumption) (by assumption))⟩, by omega, back [0] rfl rfl ⟨rfl, trivial⟩ (by repeat' (first | exact trivial | exact rfl | refine And.intro ?_ ?_))⟩
              | (exfalso; simp_all; done)
          · obtain ⟨b, hb⟩ := getE (show n < o.charges.length by omega)
            repeat' (first | (refine idx_sl (k := n + 1) (at_map hc) (by omega) ?_) | (refine idx_sl (k := n) (at_map hb) (by omega) ?_) | refine o1 ?_ | refine o2 ?_ | refine k1 ?_ | refine k2 ?_ | refine k3 ?_ | refine k4 ?_ | refine k6 ?_ | refine k7 ?_ | refine And.intro ?_ ?_ | refine o3 ?_ | refine o4 ?_ | (intro h; first | exact Bool.noConfusion h | exact nz _ h | exact nl h | (simp at h; done) | (simp at h; first | (exfalso; omega) | skip) | skip) | (change retOk _ _ _ _; refine ret_pure rfl trivial ?_) | exact (by kernel_rfl : drawOk _ _ = true) | refine eqv_len_map ?_ | refine eqv_wrap (by omega) (by omega) ?_ | (change vcFunD _ _ _ _ _; refine callD_eq rfl (by repeat' (first | trivial | refine And.intro ?_ ?_ | (show 0 + _ ≤ List.length _; simp))) ALeL.refl (c_rnamed m c.rule) rfl ?_) | (change vcFunD _ _ _ _ _; refine callD_eq rfl (by repeat' (first | trivial | refine And.intro ?_ ?_ | (show 0 + _ ≤ List.length _; simp))) ALeL.refl (c_rcost c.cost) rfl ?_) | fail)
            all_goals first
              | (refine congrArg (vint .i64) (mE1 hz fun g => ?_).symm; obtain ⟨g1, g2, g3⟩ := hgood g c hc; first | exact absurd g1 (by assumption) | exact absurd g2 (by assumption) | (have := g3 n b rfl hb; omega))
              | exact ⟨n + 2, ⟨by omega, all_lt_succ halln (charge_next hc hb (by assumption) (by assumption) (by omega))⟩, by omega, back [0] rfl rfl ⟨rfl, trivial⟩ (by repeat' (first | exact trivial | exact rfl | refine And.intro ?_ ?_))⟩
        · repeat' (first | refine o1 ?_ | refine o2 ?_ | refine k1 ?_ | refine k2 ?_ | refine k3 ?_ | refine k8 ?_ | refine And.intro ?_ ?_ | (intro h; first | exact Bool.noConfusion h | exact nz _ h | exact nl h | (simp at h; done) | (simp at h; first | (exfalso; omega) | skip) | skip) | refine eqv_len_map ?_ | refine eqv_wrap (by omega) (by omega) ?_ | fail)
          all_goals first
            | exact ⟨k + 1, ⟨by omega, all_lt_succ hallk fun o' h' => by rw [ho] at h'; cases h'; exact fun j hj => halln j (by omega)⟩, by omega, back [0] rfl rfl ⟨rfl, trivial⟩ (by repeat' (first | exact trivial | exact rfl | refine And.intro ?_ ?_))⟩
      · repeat' (first | refine o1 ?_ | refine o2 ?_ | refine k1 ?_ | refine k2 ?_ | refine k3 ?_ | refine k8 ?_ | refine And.intro ?_ ?_ | (intro h; first | exact Bool.noConfusion h | exact nz _ h | exact nl h | (simp at h; done) | (simp at h; first | (exfalso; omega) | skip) | skip) | refine eqv_len_map ?_ | refine eqv_wrap (by omega) (by omega) ?_ | refine ⟨_, _, (by first | rfl | assumption), at_map (by assumption), ?_⟩ | fail)
        all_goals first
          | exact ⟨i + 1, ⟨by omega, all_lt_succ hall fun l' h' => by rw [hl1] at h'; cases h'; exact all_mem hkg hallk⟩, by omega, back [0] rfl rfl ⟨rfl, trivial⟩ (by repeat' (first | exact trivial | exact rfl | refine And.intro ?_ ?_))⟩
    · have hch : ∀ l ∈ m.classes, ∀ o ∈ l, chargesP m o := fun l hl => by
        obtain ⟨j, hj⟩ := List.getElem?_of_mem hl
        exact hall j (by have := (List.getElem?_eq_some_iff.1 hj).1; omega) l hj
      repeat' (first | refine o1 ?_ | refine o2 ?_ | refine k1 ?_ | refine k2 ?_ | refine k3 ?_ | refine k4 ?_ | refine k8 ?_ | refine And.intro ?_ ?_ | (intro h; first | exact Bool.noConfusion h | exact nz _ h | exact nl h | (simp at h; done) | (simp at h; first | (exfalso; omega) | skip) | skip) | refine eqv_len_map ?_ | fail)
      refine loop_at (fun i : Nat => [(7, vint .i64 i)]) (fun _ => []) (fun i => i ≤ m.pairs.length ∧ ∀ j, j < i → pairAt m j) (fun i => m.pairs.length - i) 0 ⟨by omega, fun j hj => by omega⟩ (by repeat' (first | exact trivial | exact ⟨_, rfl, ALe.refl⟩ | refine And.intro ?_ ?_)) (by repeat' (first | exact trivial | exact rfl | refine And.intro ?_ ?_)) ?_
      intro i ⟨hi, hall2⟩
      rcases Nat.lt_or_ge i m.pairs.length with hlt | hge
      · obtain ⟨p, hp⟩ := getE hlt
        rcases i with _ | k
        · repeat' (first | refine o1 ?_ | refine o2 ?_ | refine k1 ?_ | refine k2 ?_ | refine k3 ?_ | refine k4 ?_ | refine k6 ?_ | refine k7 ?_ | refine k8 ?_ | refine And.intro ?_ ?_ | (intro h; first | exact Bool.noConfusion h | exact nz _ h | exact nl h | (simp at h; done) | (simp at h; first | (exfalso; omega) | skip) | skip) | (change retOk _ _ _ _; refine ret_pure rfl trivial ?_) | refine eqv_len_map ?_ | refine eqv_wrap (by omega) (by omega) ?_ | (change vcFun _ _ _ _ _; refine call_eq rfl (by repeat' (first | trivial | refine And.intro ?_ ?_ | (show 0 + _ ≤ List.length _; simp))) ALeL.refl (c_rpaired0 m p hz hp) rfl ?_) | fail)
          all_goals first
            | (refine congrArg (vint .i64) (mE1 hz fun g => ?_).symm; exact absurd (g.2.1 _ hlt) (by assumption))
            | exact ⟨1, ⟨by omega, all_lt_succ hall2 (by assumption)⟩, by omega, back [0] rfl rfl ⟨rfl, trivial⟩ (by repeat' (first | exact trivial | exact rfl | refine And.intro ?_ ?_))⟩
            | (exfalso; simp_all; done)
        · obtain ⟨q, hq⟩ := getE (show k < m.pairs.length by omega)
          repeat' (first | refine o1 ?_ | refine o2 ?_ | refine k1 ?_ | refine k2 ?_ | refine k3 ?_ | refine k4 ?_ | refine k6 ?_ | refine k7 ?_ | refine And.intro ?_ ?_ | (intro h; first | exact Bool.noConfusion h | exact nz _ h | exact nl h | (simp at h; done) | (simp at h; first | (exfalso; omega) | skip) | skip) | (change retOk _ _ _ _; refine ret_pure rfl trivial ?_) | refine eqv_len_map ?_ | refine eqv_wrap (by omega) (by omega) ?_ | (change vcFun _ _ _ _ _; refine call_eq rfl (by repeat' (first | trivial | refine And.intro ?_ ?_ | (show 0 + _ ≤ List.length _; simp))) ALeL.refl (c_rpairedS m k q hq p hz hp) rfl ?_) | fail)
          all_goals first
            | (refine congrArg (vint .i64) (mE1 hz fun g => ?_).symm; exact absurd (g.2.1 _ hlt) (by assumption))
            | exact ⟨k + 2, ⟨by omega, all_lt_succ hall2 (by assumption)⟩, by omega, back [0] rfl rfl ⟨rfl, trivial⟩ (by repeat' (first | exact trivial | exact rfl | refine And.intro ?_ ?_))⟩
      · have hpa : ∀ i, i < m.pairs.length → pairAt m i := fun j hj => hall2 j (by omega)
        repeat' (first | refine o1 ?_ | refine o2 ?_ | refine k1 ?_ | refine k2 ?_ | refine k3 ?_ | refine k4 ?_ | refine k8 ?_ | refine And.intro ?_ ?_ | (intro h; first | exact Bool.noConfusion h | exact nz _ h | exact nl h | (simp at h; done) | (simp at h; first | (exfalso; omega) | skip) | skip) | refine eqv_len_map ?_ | fail)
        refine loop_at (fun i : Nat => [(8, vint .i64 i)]) (fun _ => []) (fun i => i ≤ m.counts.length ∧ ∀ j, j < i → ∀ c, m.counts[j]? = some c → countP_ m c) (fun i => m.counts.length - i) 0 ⟨by omega, fun j hj => by omega⟩ (by repeat' (first | exact trivial | exact ⟨_, rfl, ALe.refl⟩ | refine And.intro ?_ ?_)) (by repeat' (first | exact trivial | exact rfl | refine And.intro ?_ ?_)) ?_
        intro i ⟨hi, hall3⟩
        rcases Nat.lt_or_ge i m.counts.length with hlt | hge
        · obtain ⟨c, hc⟩ := getE hlt
          repeat' (first | (refine idx_sl (k := i) (at_map hc) (by omega) ?_) | refine o1 ?_ | refine o2 ?_ | refine k1 ?_ | refine k2 ?_ | refine k3 ?_ | refine k4 ?_ | refine k6 ?_ | refine k7 ?_ | refine And.intro ?_ ?_ | refine o3 ?_ | refine o4 ?_ | (intro h; first | exact Bool.noConfusion h | exact nz _ h | exact nl h | (simp at h; done) | (simp at h; first | (exfalso; omega) | skip) | skip) | (change retOk _ _ _ _; refine ret_pure rfl trivial ?_) | exact (by kernel_rfl : drawOk _ _ = true) | refine eqv_len_map ?_ | refine eqv_wrap (by omega) (by omega) ?_ | (change vcFunD _ _ _ _ _; refine callD_eq rfl (by repeat' (first | trivial | refine And.intro ?_ ?_ | (show 0 + _ ≤ List.length _; simp))) ALeL.refl (c_rcounted m c (hl.ld c (List.mem_of_getElem? hc))) rfl ?_) | fail)
          all_goals first
            | (refine congrArg (vint .i64) (mE1 hz fun g => ?_).symm; exact absurd (g.2.2 c (List.mem_of_getElem? hc)) (by assumption))
            | exact ⟨i + 1, ⟨by omega, all_lt_succ hall3 fun c' h' => by rw [hc] at h'; cases h'; assumption⟩, by omega, back [0] rfl rfl ⟨rfl, trivial⟩ (by repeat' (first | exact trivial | exact rfl | refine And.intro ?_ ?_))⟩
        · repeat' (first | refine o1 ?_ | refine o2 ?_ | refine k1 ?_ | refine k2 ?_ | refine k3 ?_ | refine k7 ?_ | refine k8 ?_ | refine And.intro ?_ ?_ | (intro h; first | exact Bool.noConfusion h | exact nz _ h | exact nl h | (simp at h; done) | (simp at h; first | (exfalso; omega) | skip) | skip) | (change retOk _ _ _ _; refine ret_pure rfl trivial ?_) | refine eqv_len_map ?_ | fail)
          all_goals first
            | exact congrArg (vint .i64) (mE0 hz ⟨hch, hpa, all_mem hge hall3⟩).symm
  · refine acall_of tok mixed 105 rfl (fn := Tryz.f70) (c := Tryz.f70.body.getD .skip) (by kernel_rfl) (by kernel_rfl) (by kernel_rfl) rfl 0 rfl ?_
    repeat' (first | refine o1 ?_ | refine o2 ?_ | refine k1 ?_ | refine k2 ?_ | refine k3 ?_ | refine k4 ?_ | refine k6 ?_ | refine k7 ?_ | refine And.intro ?_ ?_ | (intro h; first | exact Bool.noConfusion h | exact nz _ h | exact nl h | (simp at h; done) | (simp at h; first | (exfalso; omega) | skip) | skip) | (change retOk _ _ _ _; refine ret_pure rfl trivial ?_) | (change vcFun _ _ _ _ _; refine call_eq rfl (by repeat' (first | trivial | refine And.intro ?_ ?_ | (show 0 + _ ≤ List.length _; simp))) ALeL.refl (c_sized m hl) rfl ?_) | fail)
    all_goals first
      | exact congrArg (vint .i64) (mE2 hz).symm
      | (exfalso; exact hz (by assumption))
end Go.Proofs.YtpnghlibmpainaaGreat.Cw

/-
  Contracts: complete plans.
-/
namespace Go.Proofs.YtpnghlibmpainaaGreat.Cw
open Go.Cw Go.Proofs
set_option linter.unusedVariables false
set_option maxRecDepth 100000
set_option maxHeartbeats 1600000

def planP (m : Model) (plan : List Int) : Prop := plan.length = m.classes.length ∧ ∀ i, i < plan.length → ∀ o, plan[i]? = some o → optionP m i o
def plannedP (m : Model) (plan : List Int) : Prop := plan.length = m.classes.length ∧ ∀ i, i < plan.length → ∀ o, plan[i]? = some o → o = -1 ∨ optionP m i o
theorem plan_of {m : Model} {plan : List Int} : planP m plan ↔ plannedP m plan ∧ ¬ (-1 : Int) ∈ plan := by
  constructor
  · rintro ⟨h1, h2⟩
    refine ⟨⟨h1, fun i hi o ho => .inr (h2 i hi o ho)⟩, fun h => ?_⟩
    obtain ⟨j, hj⟩ := List.getElem?_of_mem h
    have := h2 j (List.getElem?_eq_some_iff.1 hj).1 _ hj
    obtain ⟨_, g, _⟩ := this
    omega
  · rintro ⟨⟨h1, h2⟩, h3⟩
    refine ⟨h1, fun i hi o ho => (h2 i hi o ho).elim (fun e => ?_) id⟩
    subst e; exact absurd (List.mem_of_getElem? ho) h3
noncomputable def completeE (m : Model) (plan : List Int) : Int := if modelE m = 0 then (if pB (planP m plan) then 0 else 17) else modelE m
theorem cE0 {m : Model} {plan : List Int} (h : modelE m = 0) (hp : planP m plan) : completeE m plan = 0 := by unfold completeE; rw [if_pos h, if_pos (pB_t hp)]
theorem cE1 {m : Model} {plan : List Int} (h : modelE m = 0) (hp : ¬ planP m plan) : completeE m plan = 17 := by unfold completeE; rw [if_pos h, if_neg (by rw [pB_f hp]; simp)]
theorem cE2 {m : Model} {plan : List Int} (h : ¬ modelE m = 0) : completeE m plan = modelE m := by unfold completeE; rw [if_neg h]
theorem model_sized {m : Model} (h : modelE m = 0) : sizedP m := Classical.byContradiction fun hn => by rw [mE2 hn] at h; cases h
theorem c_planned (m : Model) (plan : List Int) (hz : sizedP m) : PCall Tryz.prog 74 [ag m.cells, .pv (encInts plan)] (fun r => r = vbool (pB (plannedP m plan))) := by
  refine acall_of tok mixed 30 rfl (fn := Tryz.f74) (c := Tryz.f74.body.getD .skip) (by kernel_rfl) (by kernel_rfl) (by kernel_rfl) rfl 0 rfl ?_
  have hcn := hz.1
  repeat' (first | refine o1 ?_ | refine o2 ?_ | refine k1 ?_ | refine k2 ?_ | refine k3 ?_ | refine k4 ?_ | refine k6 ?_ | refine k7 ?_ | refine k8 ?_ | refine And.intro ?_ ?_ | exact trivial | refine o3 ?_ | refine o4 ?_ | refine o5 ?_ | refine o6 ?_ | refine k5 ?_ | (intro h; first | exact Bool.noConfusion h | exact nz _ h | exact nl h | (simp at h; done) | (simp at h; first | (exfalso; omega) | skip) | skip) | (change retOk _ _ _ _; refine ret_pure rfl trivial ?_) | exact (rfl : allOne _ = true) | (refine (?_ : (0 : Int) ≤ _); omega) | (refine (?_ : _ ≠ _); omega) | (refine (?_ : srcLen _ = rowsLen _); rfl) | exact Nat.le_of_ble_eq_true rfl | exact (by kernel_rfl : drawOk _ _ = true) | refine eqv_len_map ?_ | refine eqv_size ?_ | refine eqv_put (eqv_ck ?_) | refine eqv_zero ?_ | refine eqv_wrap (by omega) (by omega) ?_ | refine eqv_u64 (by omega) (by omega) ?_ | refine eqv_u8 (by omega) (by omega) ?_ | refine eqv_to _ (set_map rfl rfl) ?_ | refine ⟨_, _, (by first | rfl | assumption), at_map (by assumption), ?_⟩ | refine ⟨_, _, (by first | rfl | assumption), (by assumption), ?_⟩ | refine ⟨_, at_map (by assumption), (by decide), ?_⟩ | refine ⟨_, at_map (by assumption), ?_⟩ | (refine (?_ : _ ≤ 140737488355328); simp [rowsLen] <;> omega) | (refine (?_ : _ ≤ 9223372036854775807); simp [rowsLen] <;> omega) | (refine (?_ : _ = rowsLen _); simp [rowsLen] <;> omega) | refine eqv_to _ (app_row rfl) (eqv_to _ app_len ?_) | refine eqv_to _ (app_first rfl) (eqv_to 1 rfl ?_) | refine idx_sl (at_map (by assumption)) (by omega) ?_ | refine idx_ms _ (by first | rfl | assumption) (by first | assumption | omega) ?_ | fail)
  all_goals first
    | exact congrArg vbool (pB_f fun h => by have := h.1; omega).symm
    | skip
  have hpl : plan.length = m.classes.length := by omega
  refine loop_at (fun i : Nat => [(15, vint .i64 i)]) (fun _ => []) (fun i => i ≤ plan.length ∧ ∀ j, j < i → ∀ o, plan[j]? = some o → o = -1 ∨ optionP m j o) (fun i => plan.length - i) 0 ⟨by omega, fun j hj => by omega⟩ (by repeat' (first | exact trivial | exact rfl | exact ⟨_, rfl, ALe.refl⟩ | refine And.intro ?_ ?_)) (by repeat' (first | exact trivial | exact rfl | exact ⟨_, rfl, ALe.refl⟩ | refine And.intro ?_ ?_)) ?_
  intro i ⟨hi, hall⟩
  rcases Nat.lt_or_ge i plan.length with hlt | hge
  · obtain ⟨o, ho⟩ := getE hlt
    repeat' (first | refine o1 ?_ | refine o2 ?_ | refine k1 ?_ | refine k2 ?_ | refine k3 ?_ | refine k4 ?_ | refine k6 ?_ | refine k7 ?_ | refine k8 ?_ | refine And.intro ?_ ?_ | exact trivial | refine o3 ?_ | refine o4 ?_ | refine o5 ?_ | refine o6 ?_ | refine k5 ?_ | (intro h; first | exact Bool.noConfusion h | exact nz _ h | exact nl h | (simp at h; done) | (simp at h; first | (exfalso; omega) | skip) | skip) | (change retOk _ _ _ _; refine ret_pure rfl trivial ?_) | exact (rfl : allOne _ = true) | (refine (?_ : (0 : Int) ≤ _); omega) | (refine (?_ : _ ≠ _); omega) | (refine (?_ : srcLen _ = rowsLen _); rfl) | exact Nat.le_of_ble_eq_true rfl | exact (by kernel_rfl : drawOk _ _ = true) | refine eqv_len_map ?_ | refine eqv_size ?_ | refine eqv_put (eqv_ck ?_) | refine eqv_zero ?_ | refine eqv_wrap (by omega) (by omega) ?_ | refine eqv_u64 (by omega) (by omega) ?_ | refine eqv_u8 (by omega) (by omega) ?_ | refine eqv_to _ (set_map rfl rfl) ?_ | refine ⟨_, _, (by first | rfl | assumption), at_map (by assumption), ?_⟩ | refine ⟨_, _, (by first | rfl | assumption), (by assumption), ?_⟩ | refine ⟨_, at_map (by assumption), (by decide), ?_⟩ | refine ⟨_, at_map (by assumption), ?_⟩ | (refine (?_ : _ ≤ 140737488355328); simp [rowsLen] <;> omega) | (refine (?_ : _ ≤ 9223372036854775807); simp [rowsLen] <;> omega) | (refine (?_ : _ = rowsLen _); simp [rowsLen] <;> omega) | refine eqv_to _ (app_row rfl) (eqv_to _ app_len ?_) | refine eqv_to _ (app_first rfl) (eqv_to 1 rfl ?_) | refine idx_sl (at_map (by assumption)) (by omega) ?_ | refine idx_ms _ (by first | rfl | assumption) (by first | assumption | omega) ?_ | (change vcFun _ _ _ _ _; refine call_eq rfl (by repeat' (first | trivial | refine And.intro ?_ ?_ | (show 0 + _ ≤ List.length _; simp))) ALeL.refl (c_option m i o) rfl ?_) | (change vcFunD _ _ _ _ _; refine callD_eq rfl (by repeat' (first | trivial | refine And.intro ?_ ?_ | (show 0 + _ ≤ List.length _; simp))) ALeL.refl (c_option m i o) rfl ?_) | fail)
    all_goals first
      | (refine congrArg vbool (pB_f fun h => ?_).symm; exact (h.2 i hlt o ho).elim (fun g => absurd g (by assumption)) (fun g => absurd g (by assumption)))
      | exact ⟨i + 1, ⟨by omega, all_lt_succ hall fun o' h' => by rw [ho] at h'; cases h'; first | exact .inl (by omega) | exact .inr (by assumption)⟩, by omega, back [0] rfl rfl ⟨rfl, trivial⟩ (by repeat' (first | exact trivial | exact rfl | exact ⟨_, rfl, ALe.refl⟩ | refine And.intro ?_ ?_))⟩
  · repeat' (first | refine o1 ?_ | refine o2 ?_ | refine k1 ?_ | refine k2 ?_ | refine k3 ?_ | refine k4 ?_ | refine k6 ?_ | refine k7 ?_ | refine k8 ?_ | refine And.intro ?_ ?_ | exact trivial | refine o3 ?_ | refine o4 ?_ | refine o5 ?_ | refine o6 ?_ | refine k5 ?_ | (intro h; first | exact Bool.noConfusion h | exact nz _ h | exact nl h | (simp at h; done) | (simp at h; first | (exfalso; omega) | skip) | skip) | (change retOk _ _ _ _; refine ret_pure rfl trivial ?_) | exact (rfl : allOne _ = true) | (refine (?_ : (0 : Int) ≤ _); omega) | (refine (?_ : _ ≠ _); omega) | (refine (?_ : srcLen _ = rowsLen _); rfl) | exact Nat.le_of_ble_eq_true rfl | exact (by kernel_rfl : drawOk _ _ = true) | refine eqv_len_map ?_ | refine eqv_size ?_ | refine eqv_put (eqv_ck ?_) | refine eqv_zero ?_ | refine eqv_wrap (by omega) (by omega) ?_ | refine eqv_u64 (by omega) (by omega) ?_ | refine eqv_u8 (by omega) (by omega) ?_ | refine eqv_to _ (set_map rfl rfl) ?_ | refine ⟨_, _, (by first | rfl | assumption), at_map (by assumption), ?_⟩ | refine ⟨_, _, (by first | rfl | assumption), (by assumption), ?_⟩ | refine ⟨_, at_map (by assumption), (by decide), ?_⟩ | refine ⟨_, at_map (by assumption), ?_⟩ | (refine (?_ : _ ≤ 140737488355328); simp [rowsLen] <;> omega) | (refine (?_ : _ ≤ 9223372036854775807); simp [rowsLen] <;> omega) | (refine (?_ : _ = rowsLen _); simp [rowsLen] <;> omega) | refine eqv_to _ (app_row rfl) (eqv_to _ app_len ?_) | refine eqv_to _ (app_first rfl) (eqv_to 1 rfl ?_) | refine idx_sl (at_map (by assumption)) (by omega) ?_ | refine idx_ms _ (by first | rfl | assumption) (by first | assumption | omega) ?_ | fail)
    all_goals first
      | exact congrArg vbool (pB_t ⟨hpl, fun j hj => hall j (by omega)⟩).symm
theorem c_complete (m : Model) (plan : List Int) (hl : Laid m) : PCall Tryz.prog 63 [ag m.cells, .pv (encInts plan)] (fun r => r = vint .i64 (completeE m plan)) := by
  by_cases h0 : modelE m = 0
  · have hz := model_sized h0
    have hcn := hz.1
    by_cases hp : plannedP m plan
    · have hpl := hp.1
      refine acall_of tok mixed 19 rfl (fn := Tryz.f63) (c := Tryz.f63.body.getD .skip) (by kernel_rfl) (by kernel_rfl) (by kernel_rfl) rfl 0 rfl ?_
      repeat' (first | refine o1 ?_ | refine o2 ?_ | refine k1 ?_ | refine k2 ?_ | refine k3 ?_ | refine k4 ?_ | refine k6 ?_ | refine k7 ?_ | refine k8 ?_ | refine And.intro ?_ ?_ | exact trivial | refine o3 ?_ | refine o4 ?_ | refine o5 ?_ | refine o6 ?_ | refine k5 ?_ | (intro h; first | exact Bool.noConfusion h | exact nz _ h | exact nl h | (simp at h; done) | (simp at h; first | (exfalso; omega) | skip) | skip) | (change retOk _ _ _ _; refine ret_pure rfl trivial ?_) | exact (rfl : allOne _ = true) | (refine (?_ : (0 : Int) ≤ _); omega) | (refine (?_ : _ ≠ _); omega) | (refine (?_ : srcLen _ = rowsLen _); rfl) | exact Nat.le_of_ble_eq_true rfl | exact (by kernel_rfl : drawOk _ _ = true) | refine eqv_len_map ?_ | refine eqv_size ?_ | refine eqv_put (eqv_ck ?_) | refine eqv_zero ?_ | refine eqv_wrap (by omega) (by omega) ?_ | refine eqv_u64 (by omega) (by omega) ?_ | refine eqv_u8 (by omega) (by omega) ?_ | refine eqv_to _ (set_map rfl rfl) ?_ | refine ⟨_, _, (by first | rfl | assumption), at_map (by assumption), ?_⟩ | refine ⟨_, _, (by first | rfl | assumption), (by assumption), ?_⟩ | refine ⟨_, at_map (by assumption), (by decide), ?_⟩ | refine ⟨_, at_map (by assumption), ?_⟩ | (refine (?_ : _ ≤ 140737488355328); simp [rowsLen] <;> omega) | (refine (?_ : _ ≤ 9223372036854775807); simp [rowsLen] <;> omega) | (refine (?_ : _ = rowsLen _); simp [rowsLen] <;> omega) | refine eqv_to _ (app_row rfl) (eqv_to _ app_len ?_) | refine eqv_to _ (app_first rfl) (eqv_to 1 rfl ?_) | refine idx_sl (at_map (by assumption)) (by omega) ?_ | refine idx_ms _ (by first | rfl | assumption) (by first | assumption | omega) ?_ | (change vcFun _ _ _ _ _; refine call_eq rfl (by repeat' (first | trivial | refine And.intro ?_ ?_ | (show 0 + _ ≤ List.length _; simp))) ALeL.refl (c_valid m hl) rfl ?_) | (change vcFun _ _ _ _ _; refine call_eq rfl (by repeat' (first | trivial | refine And.intro ?_ ?_ | (show 0 + _ ≤ List.length _; simp))) ALeL.refl (c_planned m plan hz) rfl ?_) | (change vcFun _ _ _ _ _; refine call_eq rfl (by repeat' (first | trivial | refine And.intro ?_ ?_ | (show 0 + _ ≤ List.length _; simp))) ALeL.refl (c_containsN plan (-1) (by omega)) rfl ?_) | fail)
      all_goals first
        | exact congrArg (vint .i64) (cE0 h0 (plan_of.2 ⟨hp, by assumption⟩)).symm
        | exact congrArg (vint .i64) (cE1 h0 (fun h => (plan_of.1 h).2 (by assumption))).symm
        | (exfalso; exact (by assumption : ¬ modelE m = 0) h0)
        | (exfalso; exact (by assumption : ¬ plannedP m plan) hp)
    · refine acall_of tok mixed 19 rfl (fn := Tryz.f63) (c := Tryz.f63.body.getD .skip) (by kernel_rfl) (by kernel_rfl) (by kernel_rfl) rfl 0 rfl ?_
      repeat' (first | refine o1 ?_ | refine o2 ?_ | refine k1 ?_ | refine k2 ?_ | refine k3 ?_ | refine k4 ?_ | refine k6 ?_ | refine k7 ?_ | refine k8 ?_ | refine And.intro ?_ ?_ | exact trivial | refine o3 ?_ | refine o4 ?_ | refine o5 ?_ | refine o6 ?_ | refine k5 ?_ | (intro h; first | exact Bool.noConfusion h | exact nz _ h | exact nl h | (simp at h; done) | (simp at h; first | (exfalso; omega) | skip) | skip) | (change retOk _ _ _ _; refine ret_pure rfl trivial ?_) | exact (rfl : allOne _ = true) | (refine (?_ : (0 : Int) ≤ _); omega) | (refine (?_ : _ ≠ _); omega) | (refine (?_ : srcLen _ = rowsLen _); rfl) | exact Nat.le_of_ble_eq_true rfl | exact (by kernel_rfl : drawOk _ _ = true) | refine eqv_len_map ?_ | refine eqv_size ?_ | refine eqv_put (eqv_ck ?_) | refine eqv_zero ?_ | refine eqv_wrap (by omega) (by omega) ?_ | refine eqv_u64 (by omega) (by omega) ?_ | refine eqv_u8 (by omega) (by omega) ?_ | refine eqv_to _ (set_map rfl rfl) ?_ | refine ⟨_, _, (by first | rfl | assumption), at_map (by assumption), ?_⟩ | refine ⟨_, _, (by first | rfl | assumption), (by assumption), ?_⟩ | refine ⟨_, at_map (by assumption), (by decide), ?_⟩ | refine ⟨_, at_map (by assumption), ?_⟩ | (refine (?_ : _ ≤ 140737488355328); simp [rowsLen] <;> omega) | (refine (?_ : _ ≤ 9223372036854775807); simp [rowsLen] <;> omega) | (refine (?_ : _ = rowsLen _); simp [rowsLen] <;> omega) | refine eqv_to _ (app_row rfl) (eqv_to _ app_len ?_) | refine eqv_to _ (app_first rfl) (eqv_to 1 rfl ?_) | refine idx_sl (at_map (by assumption)) (by omega) ?_ | refine idx_ms _ (by first | rfl | assumption) (by first | assumption | omega) ?_ | (change vcFun _ _ _ _ _; refine call_eq rfl (by repeat' (first | trivial | refine And.intro ?_ ?_ | (show 0 + _ ≤ List.length _; simp))) ALeL.refl (c_valid m hl) rfl ?_) | (change vcFun _ _ _ _ _; refine call_eq rfl (by repeat' (first | trivial | refine And.intro ?_ ?_ | (show 0 + _ ≤ List.length _; simp))) ALeL.refl (c_planned m plan hz) rfl ?_) | fail)
      all_goals first
        | exact congrArg (vint .i64) (cE1 h0 (fun h => hp (plan_of.1 h).1)).symm
        | (exfalso; exact (by assumption : ¬ modelE m = 0) h0)
        | (exfalso; exact hp (by assumption))
  · refine acall_of tok mixed 19 rfl (fn := Tryz.f63) (c := Tryz.f63.body.getD .skip) (by kernel_rfl) (by kernel_rfl) (by kernel_rfl) rfl 0 rfl ?_
    repeat' (first | refine o1 ?_ | refine o2 ?_ | refine k1 ?_ | refine k2 ?_ | refine k3 ?_ | refine k4 ?_ | refine k6 ?_ | refine k7 ?_ | refine k8 ?_ | refine And.intro ?_ ?_ | exact trivial | refine o3 ?_ | refine o4 ?_ | refine o5 ?_ | refine o6 ?_ | refine k5 ?_ | (intro h; first | exact Bool.noConfusion h | exact nz _ h | exact nl h | (simp at h; done) | (simp at h; first | (exfalso; omega) | skip) | skip) | (change retOk _ _ _ _; refine ret_pure rfl trivial ?_) | exact (rfl : allOne _ = true) | (refine (?_ : (0 : Int) ≤ _); omega) | (refine (?_ : _ ≠ _); omega) | (refine (?_ : srcLen _ = rowsLen _); rfl) | exact Nat.le_of_ble_eq_true rfl | exact (by kernel_rfl : drawOk _ _ = true) | refine eqv_len_map ?_ | refine eqv_size ?_ | refine eqv_put (eqv_ck ?_) | refine eqv_zero ?_ | refine eqv_wrap (by omega) (by omega) ?_ | refine eqv_u64 (by omega) (by omega) ?_ | refine eqv_u8 (by omega) (by omega) ?_ | refine eqv_to _ (set_map rfl rfl) ?_ | refine ⟨_, _, (by first | rfl | assumption), at_map (by assumption), ?_⟩ | refine ⟨_, _, (by first | rfl | assumption), (by assumption), ?_⟩ | refine ⟨_, at_map (by assumption), (by decide), ?_⟩ | refine ⟨_, at_map (by assumption), ?_⟩ | (refine (?_ : _ ≤ 140737488355328); simp [rowsLen] <;> omega) | (refine (?_ : _ ≤ 9223372036854775807); simp [rowsLen] <;> omega) | (refine (?_ : _ = rowsLen _); simp [rowsLen] <;> omega) | refine eqv_to _ (app_row rfl) (eqv_to _ app_len ?_) | refine eqv_to _ (app_first rfl) (eqv_to 1 rfl ?_) | refine idx_sl (at_map (by assumption)) (by omega) ?_ | refine idx_ms _ (by first | rfl | assumption) (by first | assumption | omega) ?_ | (change vcFun _ _ _ _ _; refine call_eq rfl (by repeat' (first | trivial | refine And.intro ?_ ?_ | (show 0 + _ ≤ List.length _; simp))) ALeL.refl (c_valid m hl) rfl ?_) | fail)
    all_goals first
      | exact congrArg (vint .i64) (cE2 h0).symm
      | (exfalso; exact h0 (by assumption))
end Go.Proofs.YtpnghlibmpainaaGreat.Cw

/-
  Plain: what a plan costs.
-/
namespace Go.Proofs.YtpnghlibmpainaaGreat.Cw
open Go.Cw Go.Proofs
set_option linter.unusedVariables false
set_option maxRecDepth 100000

def BC : Int := 1099511627776
def addC (a b : Int) : Int := if a + b < 1099511627776 then a + b else 1099511627776
def timesC (n c : Int) : Int := if n ≤ 0 then 0 else if c < 1099511627776 then (if n * c < 1099511627776 then n * c else 1099511627776) else 1099511627776
/-- A cost under a rule. -/
abbrev Term1 := Int × Int
def upC (l : List Int) (t : Term1) : List Int := l.set t.1.toNat (addC ((l[t.1.toNat]?).getD 0) t.2)
def chgT (m : Model) (plan : List Int) (i : Nat) : List Term1 := match m.classes[i]?, plan[i]? with
  | some l, some o => if o < 0 then [] else match l[o.toNat]? with
    | some x => x.charges.map fun c => (c.rule, c.cost)
    | none => []
  | _, _ => []
def entV (m : Model) (p : Pair) (a b : Int) : Int := match m.classes[p.second.toNat]? with
  | some l => (p.table[(a * l.length + b).toNat]?).getD 0
  | none => 0
def pairT (m : Model) (plan : List Int) (p : Pair) : Option Term1 := match plan[p.first.toNat]?, plan[p.second.toNat]? with
  | some a, some b => if 0 ≤ a ∧ 0 ≤ b then some (p.rule, entV m p a b) else none
  | _, _ => none
def prsT (m : Model) (plan : List Int) (n : Nat) : List Term1 := upto m.pairs (fun _ => pairT m plan) n
def hitP (plan : List Int) (x : Load) : Prop := plan[x.cls.toNat]? = some x.opt
noncomputable def loadT (plan : List Int) (l : List Load) (n : Nat) : Int := ((l.take n).map fun x => if pB (hitP plan x) then x.weight else 0).sum
noncomputable def cntT (plan : List Int) (c : Count) : Term1 := (c.rule, timesC (loadT plan c.loads c.loads.length - c.most) c.penalty)
noncomputable def cntsT (m : Model) (plan : List Int) (n : Nat) : List Term1 := (m.counts.take n).map (cntT plan)
noncomputable def termsV (m : Model) (plan : List Int) : List Term1 := gr (chgT m plan) plan.length ++ prsT m plan m.pairs.length ++ cntsT m plan m.counts.length
def zeroC (m : Model) : List Int := List.replicate m.rules.toNat 0
def runC (m : Model) (T : List Term1) : List Int := T.foldl upC (zeroC m)
noncomputable def rulesV (m : Model) (plan : List Int) : List Int := runC m (termsV m plan)
def totalV (l : List Int) (n : Nat) : Int := (l.take n).foldl addC 0

/-- Costs that are there. -/
def BndC (l : List Int) : Prop := ∀ n ∈ l, 0 ≤ n ∧ n ≤ 1099511627776
def TermOk (m : Model) (t : Term1) : Prop := ruleP m t.1 ∧ 0 ≤ t.2 ∧ t.2 ≤ 1099511627776
theorem addC_bnd {a b : Int} (ha : 0 ≤ a) (hb : 0 ≤ b) : 0 ≤ addC a b ∧ addC a b ≤ 1099511627776 := by unfold addC; split <;> omega
theorem getD_bnd {l : List Int} (h : BndC l) (i : Nat) : 0 ≤ (l[i]?).getD 0 ∧ (l[i]?).getD 0 ≤ 1099511627776 := by
  cases hc : l[i]? with
  | none => exact ⟨by decide, by decide⟩
  | some n => exact h n (List.mem_of_getElem? hc)
theorem upC_len {l : List Int} {t : Term1} : (upC l t).length = l.length := List.length_set
theorem upC_bnd {l : List Int} {t : Term1} (h : BndC l) (ht : 0 ≤ t.2) : BndC (upC l t) := fun n hn => by
  rcases List.mem_or_eq_of_mem_set hn with hn | rfl
  · exact h n hn
  · exact addC_bnd (getD_bnd h _).1 ht
theorem runC_len {T : List Term1} : ∀ {l : List Int}, (T.foldl upC l).length = l.length := by
  induction T with
  | nil => intro l; rfl
  | cons t T ih => intro l; rw [List.foldl_cons, ih, upC_len]
theorem runC_bnd {T : List Term1} : ∀ {l : List Int}, BndC l → (∀ t ∈ T, 0 ≤ t.2) → BndC (T.foldl upC l) := by
  induction T with
  | nil => intro l h _; exact h
  | cons t T ih => intro l h ht; rw [List.foldl_cons]; exact ih (upC_bnd h (ht t (List.mem_cons_self ..))) fun q hq => ht q (List.mem_cons_of_mem _ hq)
theorem zero_bnd {m : Model} : BndC (zeroC m) := fun n hn => by
  have := List.eq_of_mem_replicate hn
  omega
theorem zero_len {m : Model} : (zeroC m).length = m.rules.toNat := List.length_replicate
theorem run_len {m : Model} {T : List Term1} : (runC m T).length = m.rules.toNat := by unfold runC; rw [runC_len, zero_len]
theorem run_snoc {m : Model} {T : List Term1} {t : Term1} : runC m (T ++ [t]) = upC (runC m T) t := by unfold runC; rw [List.foldl_append]; rfl
theorem run_bnd {m : Model} {T : List Term1} (h : ∀ t ∈ T, 0 ≤ t.2) : BndC (runC m T) := runC_bnd zero_bnd h

/-- The sum of the costs under a rule. -/
def sumR (T : List Term1) (r : Nat) : Int := ((T.filter fun t => t.1.toNat == r).map Prod.snd).sum
theorem sumR_nil {r : Nat} : sumR [] r = 0 := rfl
theorem sumR_app {S T : List Term1} {r : Nat} : sumR (S ++ T) r = sumR S r + sumR T r := by
  unfold sumR; rw [List.filter_append, List.map_append, List.sum_append]
theorem sumR_cons {t : Term1} {T : List Term1} {r : Nat} : sumR (t :: T) r = (if t.1.toNat = r then t.2 else 0) + sumR T r := by
  unfold sumR
  by_cases h : t.1.toNat = r
  · rw [List.filter_cons_of_pos (by simpa using h), if_pos h]; rfl
  · rw [List.filter_cons_of_neg (by simpa using h), if_neg h]; omega
def minC (n : Int) : Int := if n < 1099511627776 then n else 1099511627776
theorem run_at {T : List Term1} {r : Nat} : ∀ {l : List Int} {n : Int}, (∀ t ∈ T, 0 ≤ t.2) → (∀ t ∈ T, t.1.toNat < l.length) → l[r]? = some (minC n) → 0 ≤ n → (T.foldl upC l)[r]? = some (minC (n + sumR T r)) := by
  induction T with
  | nil => intro l n _ _ h _; rw [sumR_nil, Int.add_zero]; exact h
  | cons t T ih =>
    intro l n hT hr h hn
    have h2 := hT t (List.mem_cons_self ..)
    have h3 := hr t (List.mem_cons_self ..)
    rw [List.foldl_cons, sumR_cons, ← Int.add_assoc]
    refine ih (fun q hq => hT q (List.mem_cons_of_mem _ hq)) (fun q hq => by rw [upC_len]; exact hr q (List.mem_cons_of_mem _ hq)) ?_ (by split <;> omega)
    unfold upC
    by_cases e : t.1.toNat = r
    · subst e
      rw [List.getElem?_set_self h3, h, if_pos rfl, Option.getD_some]
      refine congrArg some ?_
      unfold addC minC; (repeat' split) <;> omega
    · rw [List.getElem?_set_ne e, h, if_neg e, Int.add_zero]
theorem rules_at {m : Model} {T : List Term1} {r : Nat} (hr : r < m.rules.toNat) (hT : ∀ t ∈ T, TermOk m t) : (runC m T)[r]? = some (minC (sumR T r)) := by
  have h1 : (zeroC m)[r]? = some (minC 0) := by unfold zeroC; rw [List.getElem?_replicate, if_pos hr]; rfl
  have := run_at (T := T) (fun t ht => (hT t ht).2.1) (fun t ht => by rw [zero_len]; have := (hT t ht).1; have h1 := this.1; have h2 := this.2; omega) h1 (Int.le_refl _)
  rw [Int.zero_add] at this
  exact this
end Go.Proofs.YtpnghlibmpainaaGreat.Cw

/-
  Contracts: the places of a plan.
-/
namespace Go.Proofs.YtpnghlibmpainaaGreat.Cw
open Go.Cw Go.Proofs
set_option linter.unusedVariables false
set_option maxRecDepth 100000
set_option maxHeartbeats 1600000

def plc (m : Model) (plan : List Int) (i : Nat) : Option Placed := match m.classes[i]?, plan[i]? with
  | some l, some o => (l[o.toNat]?).map Opt.place
  | _, _ => none
def placesTo (m : Model) (plan : List Int) (n : Nat) : List Placed := (List.range n).filterMap (plc m plan)
theorem places_next {m : Model} {plan : List Int} {i n : Nat} {l : List Opt} {x : Opt} (hl : m.classes[i]? = some l) (ho : plan[i]? = some (n : Int)) (hx : l[n]? = some x) : placesTo m plan (i + 1) = placesTo m plan i ++ [x.place] := by
  unfold placesTo
  rw [List.range_succ, List.filterMap_append]
  have : plc m plan i = some x.place := by unfold plc; rw [hl, ho]; simp [hx]
  simp [this]
theorem places_len {m : Model} {plan : List Int} {n : Nat} : (placesTo m plan n).length ≤ n := by
  have := List.length_filterMap_le (plc m plan) (List.range n)
  rw [List.length_range] at this
  exact this
noncomputable def placesV (m : Model) (plan : List Int) : List Placed := if completeE m plan = 0 then placesTo m plan plan.length else []
theorem complete_plan {m : Model} {plan : List Int} (h : completeE m plan = 0) : sizedP m ∧ planP m plan := by
  by_cases h0 : modelE m = 0
  · refine ⟨model_sized h0, Classical.byContradiction fun hp => ?_⟩
    rw [cE1 h0 hp] at h; cases h
  · rw [cE2 h0] at h; exact absurd h h0
def mbox (m : Model) : Option AObj := some ⟨51, 4, false, .box [.pv (.sl 1 (m.classes.map optsRow)), .pv (.sl 4 (m.pairs.map Pair.row)), .pv (.sl 4 (m.counts.map Count.row)), vint .i64 m.rules]⟩
theorem c_placement0 (m : Model) (plan : List Int) (hl : Laid m) : PCall Tryz.prog 26 [ag m.cells, .pv (encInts plan)] (fun r => Leq r (.tup [.pv (.sl 5 ((placesV m plan).map Placed.row)), vint .i64 (completeE m plan)])) := by
  by_cases h0 : completeE m plan = 0
  · obtain ⟨hz, hp⟩ := complete_plan h0
    have hcn := hz.1
    have hpl := hp.1
    refine acall_of tok mixed 37 rfl (fn := Tryz.f26) (c := Tryz.f26.body.getD .skip) (by kernel_rfl) (by kernel_rfl) (by kernel_rfl) rfl 0 rfl ?_
    repeat' (first | refine o1 ?_ | refine o2 ?_ | refine k1 ?_ | refine k2 ?_ | refine k3 ?_ | refine k4 ?_ | refine k6 ?_ | refine k7 ?_ | refine k8 ?_ | refine And.intro ?_ ?_ | exact trivial | refine o3 ?_ | refine o4 ?_ | refine o5 ?_ | refine o6 ?_ | refine k5 ?_ | (intro h; first | exact Bool.noConfusion h | exact nz _ h | exact nl h | (simp at h; done) | (simp at h; first | (exfalso; omega) | skip) | skip) | (change retOk _ _ _ _; refine ret_pure rfl trivial ?_) | exact (rfl : allOne _ = true) | (refine (?_ : (0 : Int) ≤ _); omega) | (refine (?_ : _ ≠ _); omega) | (refine (?_ : srcLen _ = rowsLen _); rfl) | exact Nat.le_of_ble_eq_true rfl | exact (by kernel_rfl : drawOk _ _ = true) | refine eqv_len_map ?_ | refine eqv_size ?_ | refine eqv_put (eqv_ck ?_) | refine eqv_zero ?_ | refine eqv_wrap (by omega) (by omega) ?_ | refine eqv_u64 (by omega) (by omega) ?_ | refine eqv_u8 (by omega) (by omega) ?_ | refine eqv_to _ (set_map rfl rfl) ?_ | refine ⟨_, _, (by first | rfl | assumption), at_map (by assumption), ?_⟩ | refine ⟨_, _, (by first | rfl | assumption), (by assumption), ?_⟩ | refine ⟨_, at_map (by assumption), (by decide), ?_⟩ | refine ⟨_, at_map (by assumption), ?_⟩ | (refine (?_ : _ ≤ 140737488355328); simp [rowsLen] <;> omega) | (refine (?_ : _ ≤ 9223372036854775807); simp [rowsLen] <;> omega) | (refine (?_ : _ = rowsLen _); simp [rowsLen] <;> omega) | refine eqv_to _ (app_row rfl) (eqv_to _ app_len ?_) | refine eqv_to _ (app_first rfl) (eqv_to 1 rfl ?_) | refine idx_sl (at_map (by assumption)) (by omega) ?_ | refine idx_ms _ (by first | rfl | assumption) (by first | assumption | omega) ?_ | (change vcFun _ _ _ _ _; refine call_eq rfl (by repeat' (first | trivial | refine And.intro ?_ ?_ | (show 0 + _ ≤ List.length _; simp))) ALeL.refl (c_complete m plan hl) rfl ?_) | fail)
    all_goals first
      | (exfalso; exact (by assumption : ¬ completeE m plan = 0) h0)
      | skip
    refine loop_in (fun x : Nat × List Placed => [(7, slP 1 5 (x.2.map Placed.row)), (18, vint .i64 x.1)]) (fun x => [mbox m, obP 66 5 (x.2.map Placed.row)]) (fun x => x.1 ≤ plan.length ∧ x.2 = placesTo m plan x.1) (fun x => plan.length - x.1) (0, []) ⟨by simp, rfl⟩ ⟨?_, ?_⟩
    · exact back [0, 1] rfl rfl (by repeat' (first | exact trivial | exact rfl | exact ⟨_, rfl, ALe.refl⟩ | refine And.intro ?_ ?_)) (by repeat' (first | exact trivial | exact rfl | exact ⟨_, rfl, ALe.refl⟩ | refine And.intro ?_ ?_))
    rintro ⟨i, ps⟩ ⟨hi, hps⟩
    dsimp only at hi hps
    have hpn := places_len (m := m) (plan := plan) (n := i)
    rw [← hps] at hpn
    rcases Nat.lt_or_ge i plan.length with hlt | hge
    · obtain ⟨o, ho⟩ := getE hlt
      obtain ⟨l, hl1⟩ := getE (show i < m.classes.length by omega)
      obtain ⟨g1, g2, l', g3, g4⟩ := hp.2 i hlt o ho
      obtain ⟨n, rfl⟩ := Int.eq_ofNat_of_zero_le g2
      rw [Int.toNat_natCast, hl1] at g3
      cases g3
      obtain ⟨x, hx⟩ := getE (show n < l.length by omega)
      have hnext := places_next hl1 ho hx
      rw [← hps] at hnext
      rcases ps with _ | ⟨p0, ps⟩
      · dsimp only [slP, obP, nilA, List.map, List.length_cons, List.length_nil, mbox]
        repeat' (first | (refine idx_sl (k := i) (at_map hl1) (by omega) ?_) | (refine idx_sl (k := n) (at_map hx) (by omega) ?_) | (refine idx_sl (k := i) (at_map ho) (by omega) ?_) | refine o1 ?_ | refine o2 ?_ | refine k1 ?_ | refine k2 ?_ | refine k3 ?_ | refine k4 ?_ | refine k6 ?_ | refine k7 ?_ | refine k8 ?_ | refine And.intro ?_ ?_ | exact trivial | refine o3 ?_ | refine o4 ?_ | refine o5 ?_ | refine o6 ?_ | refine k5 ?_ | (intro h; first | exact Bool.noConfusion h | exact nz _ h | exact nl h | (simp at h; done) | (simp at h; first | (exfalso; omega) | skip) | skip) | (change retOk _ _ _ _; refine ret_pure rfl trivial ?_) | exact (rfl : allOne _ = true) | (refine (?_ : (0 : Int) ≤ _); omega) | (refine (?_ : _ ≠ _); omega) | (refine (?_ : srcLen _ = rowsLen _); rfl) | exact Nat.le_of_ble_eq_true rfl | exact (by kernel_rfl : drawOk _ _ = true) | refine eqv_len_map ?_ | refine eqv_size ?_ | refine eqv_put (eqv_ck ?_) | refine eqv_zero ?_ | refine eqv_wrap (by omega) (by omega) ?_ | refine eqv_u64 (by omega) (by omega) ?_ | refine eqv_u8 (by omega) (by omega) ?_ | refine eqv_to _ (set_map rfl rfl) ?_ | refine ⟨_, _, (by first | rfl | assumption), at_map (by assumption), ?_⟩ | refine ⟨_, _, (by first | rfl | assumption), (by assumption), ?_⟩ | refine ⟨_, at_map (by assumption), (by decide), ?_⟩ | refine ⟨_, at_map (by assumption), ?_⟩ | (refine (?_ : _ ≤ 140737488355328); simp [rowsLen] <;> omega) | (refine (?_ : _ ≤ 9223372036854775807); simp [rowsLen] <;> omega) | (refine (?_ : _ = rowsLen _); simp [rowsLen] <;> omega) | refine eqv_to _ (app_row rfl) (eqv_to _ app_len ?_) | refine eqv_to _ (app_first rfl) (eqv_to 1 rfl ?_) | refine idx_sl (at_map (by assumption)) (by omega) ?_ | refine idx_ms _ (by first | rfl | assumption) (by first | assumption | omega) ?_ | fail)
        exact ⟨(i + 1, [x.place]), ⟨by show i + 1 ≤ _; omega, hnext.symm⟩, (by show _ - (i + 1) < _; omega), back [0, 3] rfl rfl (by repeat' (first | exact trivial | exact rfl | exact ⟨_, rfl, ALe.refl⟩ | refine And.intro ?_ ?_)) (by repeat' (first | exact trivial | exact rfl | exact ⟨_, rfl, ALe.refl⟩ | refine And.intro ?_ ?_))⟩
      · simp only [List.length_cons] at hpn
        dsimp only [slP, obP, nilA, List.map, List.length_cons, List.length_nil, mbox]
        repeat' (first | (refine idx_sl (k := i) (at_map hl1) (by omega) ?_) | (refine idx_sl (k := n) (at_map hx) (by omega) ?_) | (refine idx_sl (k := i) (at_map ho) (by omega) ?_) | (refine app_consm (f := Placed.row) x.place rfl ?_) | refine o1 ?_ | refine o2 ?_ | refine k1 ?_ | refine k2 ?_ | refine k3 ?_ | refine k4 ?_ | refine k6 ?_ | refine k7 ?_ | refine k8 ?_ | refine And.intro ?_ ?_ | exact trivial | refine o3 ?_ | refine o4 ?_ | refine o5 ?_ | refine o6 ?_ | refine k5 ?_ | (intro h; first | exact Bool.noConfusion h | exact nz _ h | exact nl h | (simp at h; done) | (simp at h; first | (exfalso; omega) | skip) | skip) | (change retOk _ _ _ _; refine ret_pure rfl trivial ?_) | exact (rfl : allOne _ = true) | (refine (?_ : (0 : Int) ≤ _); omega) | (refine (?_ : _ ≠ _); omega) | (refine (?_ : srcLen _ = rowsLen _); rfl) | exact Nat.le_of_ble_eq_true rfl | exact (by kernel_rfl : drawOk _ _ = true) | refine eqv_len_map ?_ | refine eqv_size ?_ | refine eqv_put (eqv_ck ?_) | refine eqv_zero ?_ | refine eqv_wrap (by omega) (by omega) ?_ | refine eqv_u64 (by omega) (by omega) ?_ | refine eqv_u8 (by omega) (by omega) ?_ | refine eqv_to _ (set_map rfl rfl) ?_ | refine ⟨_, _, (by first | rfl | assumption), at_map (by assumption), ?_⟩ | refine ⟨_, _, (by first | rfl | assumption), (by assumption), ?_⟩ | refine ⟨_, at_map (by assumption), (by decide), ?_⟩ | refine ⟨_, at_map (by assumption), ?_⟩ | (refine (?_ : _ ≤ 140737488355328); simp [rowsLen] <;> omega) | (refine (?_ : _ ≤ 9223372036854775807); simp [rowsLen] <;> omega) | (refine (?_ : _ = rowsLen _); simp [rowsLen] <;> omega) | refine eqv_to _ (app_row rfl) (eqv_to _ app_len ?_) | refine eqv_to _ (app_first rfl) (eqv_to 1 rfl ?_) | refine idx_sl (at_map (by assumption)) (by omega) ?_ | refine idx_ms _ (by first | rfl | assumption) (by first | assumption | omega) ?_ | fail)
        exact ⟨(i + 1, p0 :: (ps ++ [x.place])), ⟨by show i + 1 ≤ _; omega, hnext.symm⟩, (by show _ - (i + 1) < _; omega), back [0, 3] rfl rfl (by repeat' (first | exact trivial | exact rfl | exact ⟨_, rfl, ALe.refl⟩ | refine And.intro ?_ ?_)) (by repeat' (first | exact trivial | exact rfl | exact ⟨_, rfl, ALe.refl⟩ | refine And.intro ?_ ?_))⟩
    · obtain rfl : i = plan.length := by omega
      have hv : placesV m plan = ps := by unfold placesV; rw [if_pos h0, ← hps]
      rw [hv, h0]
      rcases ps with _ | ⟨p0, ps⟩
      · dsimp only [slP, obP, nilA, List.map, List.length_cons, List.length_nil, mbox]
        repeat' (first | refine o1 ?_ | refine o2 ?_ | refine k1 ?_ | refine k2 ?_ | refine k3 ?_ | refine k4 ?_ | refine k6 ?_ | refine k7 ?_ | refine k8 ?_ | refine And.intro ?_ ?_ | exact trivial | refine o3 ?_ | refine o4 ?_ | refine o5 ?_ | refine o6 ?_ | refine k5 ?_ | (intro h; first | exact Bool.noConfusion h | exact nz _ h | exact nl h | (simp at h; done) | (simp at h; first | (exfalso; omega) | skip) | skip) | (change retOk _ _ _ _; refine ret_pure rfl trivial ?_) | exact (rfl : allOne _ = true) | (refine (?_ : (0 : Int) ≤ _); omega) | (refine (?_ : _ ≠ _); omega) | (refine (?_ : srcLen _ = rowsLen _); rfl) | exact Nat.le_of_ble_eq_true rfl | exact (by kernel_rfl : drawOk _ _ = true) | refine eqv_len_map ?_ | refine eqv_size ?_ | refine eqv_put (eqv_ck ?_) | refine eqv_zero ?_ | refine eqv_wrap (by omega) (by omega) ?_ | refine eqv_u64 (by omega) (by omega) ?_ | refine eqv_u8 (by omega) (by omega) ?_ | refine eqv_to _ (set_map rfl rfl) ?_ | refine ⟨_, _, (by first | rfl | assumption), at_map (by assumption), ?_⟩ | refine ⟨_, _, (by first | rfl | assumption), (by assumption), ?_⟩ | refine ⟨_, at_map (by assumption), (by decide), ?_⟩ | refine ⟨_, at_map (by assumption), ?_⟩ | (refine (?_ : _ ≤ 140737488355328); simp [rowsLen] <;> omega) | (refine (?_ : _ ≤ 9223372036854775807); simp [rowsLen] <;> omega) | (refine (?_ : _ = rowsLen _); simp [rowsLen] <;> omega) | refine eqv_to _ (app_row rfl) (eqv_to _ app_len ?_) | refine eqv_to _ (app_first rfl) (eqv_to 1 rfl ?_) | refine idx_sl (at_map (by assumption)) (by omega) ?_ | refine idx_ms _ (by first | rfl | assumption) (by first | assumption | omega) ?_ | fail)
        exact ⟨ALe.tup ⟨ALe.pv PLe.nil, ALe.refl, trivial⟩⟩
      · dsimp only [slP, obP, nilA, List.map, List.length_cons, List.length_nil, mbox]
        repeat' (first | refine o1 ?_ | refine o2 ?_ | refine k1 ?_ | refine k2 ?_ | refine k3 ?_ | refine k4 ?_ | refine k6 ?_ | refine k7 ?_ | refine k8 ?_ | refine And.intro ?_ ?_ | exact trivial | refine o3 ?_ | refine o4 ?_ | refine o5 ?_ | refine o6 ?_ | refine k5 ?_ | (intro h; first | exact Bool.noConfusion h | exact nz _ h | exact nl h | (simp at h; done) | (simp at h; first | (exfalso; omega) | skip) | skip) | (change retOk _ _ _ _; refine ret_pure rfl trivial ?_) | exact (rfl : allOne _ = true) | (refine (?_ : (0 : Int) ≤ _); omega) | (refine (?_ : _ ≠ _); omega) | (refine (?_ : srcLen _ = rowsLen _); rfl) | exact Nat.le_of_ble_eq_true rfl | exact (by kernel_rfl : drawOk _ _ = true) | refine eqv_len_map ?_ | refine eqv_size ?_ | refine eqv_put (eqv_ck ?_) | refine eqv_zero ?_ | refine eqv_wrap (by omega) (by omega) ?_ | refine eqv_u64 (by omega) (by omega) ?_ | refine eqv_u8 (by omega) (by omega) ?_ | refine eqv_to _ (set_map rfl rfl) ?_ | refine ⟨_, _, (by first | rfl | assumption), at_map (by assumption), ?_⟩ | refine ⟨_, _, (by first | rfl | assumption), (by assumption), ?_⟩ | refine ⟨_, at_map (by assumption), (by decide), ?_⟩ | refine ⟨_, at_map (by assumption), ?_⟩ | (refine (?_ : _ ≤ 140737488355328); simp [rowsLen] <;> omega) | (refine (?_ : _ ≤ 9223372036854775807); simp [rowsLen] <;> omega) | (refine (?_ : _ = rowsLen _); simp [rowsLen] <;> omega) | refine eqv_to _ (app_row rfl) (eqv_to _ app_len ?_) | refine eqv_to _ (app_first rfl) (eqv_to 1 rfl ?_) | refine idx_sl (at_map (by assumption)) (by omega) ?_ | refine idx_ms _ (by first | rfl | assumption) (by first | assumption | omega) ?_ | fail)
        change retOk _ _ _ _
        refine ret_pure rfl (by repeat' (first | trivial | refine And.intro ?_ ?_ | (show 0 + _ ≤ List.length _; simp))) ?_
        exact ⟨ALe.tup ⟨ALe.pv (whole_le (f := Placed.row) (l := p0 :: ps) (by simp)), ALe.refl, trivial⟩⟩
  · refine acall_of tok mixed 37 rfl (fn := Tryz.f26) (c := Tryz.f26.body.getD .skip) (by kernel_rfl) (by kernel_rfl) (by kernel_rfl) rfl 0 rfl ?_
    repeat' (first | refine o1 ?_ | refine o2 ?_ | refine k1 ?_ | refine k2 ?_ | refine k3 ?_ | refine k4 ?_ | refine k6 ?_ | refine k7 ?_ | refine k8 ?_ | refine And.intro ?_ ?_ | exact trivial | refine o3 ?_ | refine o4 ?_ | refine o5 ?_ | refine o6 ?_ | refine k5 ?_ | (intro h; first | exact Bool.noConfusion h | exact nz _ h | exact nl h | (simp at h; done) | (simp at h; first | (exfalso; omega) | skip) | skip) | (change retOk _ _ _ _; refine ret_pure rfl trivial ?_) | exact (rfl : allOne _ = true) | (refine (?_ : (0 : Int) ≤ _); omega) | (refine (?_ : _ ≠ _); omega) | (refine (?_ : srcLen _ = rowsLen _); rfl) | exact Nat.le_of_ble_eq_true rfl | exact (by kernel_rfl : drawOk _ _ = true) | refine eqv_len_map ?_ | refine eqv_size ?_ | refine eqv_put (eqv_ck ?_) | refine eqv_zero ?_ | refine eqv_wrap (by omega) (by omega) ?_ | refine eqv_u64 (by omega) (by omega) ?_ | refine eqv_u8 (by omega) (by omega) ?_ | refine eqv_to _ (set_map rfl rfl) ?_ | refine ⟨_, _, (by first | rfl | assumption), at_map (by assumption), ?_⟩ | refine ⟨_, _, (by first | rfl | assumption), (by assumption), ?_⟩ | refine ⟨_, at_map (by assumption), (by decide), ?_⟩ | refine ⟨_, at_map (by assumption), ?_⟩ | (refine (?_ : _ ≤ 140737488355328); simp [rowsLen] <;> omega) | (refine (?_ : _ ≤ 9223372036854775807); simp [rowsLen] <;> omega) | (refine (?_ : _ = rowsLen _); simp [rowsLen] <;> omega) | refine eqv_to _ (app_row rfl) (eqv_to _ app_len ?_) | refine eqv_to _ (app_first rfl) (eqv_to 1 rfl ?_) | refine idx_sl (at_map (by assumption)) (by omega) ?_ | refine idx_ms _ (by first | rfl | assumption) (by first | assumption | omega) ?_ | (change vcFun _ _ _ _ _; refine call_eq rfl (by repeat' (first | trivial | refine And.intro ?_ ?_ | (show 0 + _ ≤ List.length _; simp))) ALeL.refl (c_complete m plan hl) rfl ?_) | fail)
    all_goals first
      | (exfalso; exact h0 (by assumption))
      | skip
    unfold placesV
    rw [if_neg h0]
    exact ⟨ALe.tup ⟨ALe.pv PLe.nil, ALe.refl, trivial⟩⟩
theorem c_placement (m : Model) (plan : List Int) (hl : Laid m) : PCall Tryz.prog 26 [ag m.cells, .pv (encInts plan)] (fun r => r = .tup [.pv (.sl 5 ((placesV m plan).map Placed.row)), vint .i64 (completeE m plan)]) :=
  (c_placement0 m plan hl).weak fun r h => ⟨_, h.le, rfl⟩
end Go.Proofs.YtpnghlibmpainaaGreat.Cw

/-
  Contracts: costs of the reference.
-/
namespace Go.Proofs.YtpnghlibmpainaaGreat.Cw
open Go Go.Cw Go.Proofs
set_option linter.unusedVariables false
set_option maxRecDepth 100000
set_option maxHeartbeats 4000000

theorem eqv_mulB {a b : Int} {K : Int → Prop} (ha : 0 ≤ a ∧ a ≤ 1000000) (hb : 0 ≤ b ∧ b ≤ 1099511627776) (h : 0 ≤ a * b → K (a * b)) : eqv (IntKind.i64.wrap (a * b)) K := by
  have h1 : a * b ≤ 1000000 * 1099511627776 := Int.mul_le_mul ha.2 hb.2 hb.1 (by decide)
  have h0 : 0 ≤ a * b := Int.mul_nonneg ha.1 hb.1
  exact eqv_wrap (by omega) (by omega) (h h0)
theorem c_add19 (a b : Int) (ha : 0 ≤ a ∧ a ≤ 1099511627776) (hb : 0 ≤ b ∧ b ≤ 1099511627776) : PCall Tryz.prog 73 [vint .i64 a, vint .i64 b] (fun r => r = vint .i64 (addC a b)) := by
  refine acall_of tok mixed 9 rfl (fn := Tryz.f73) (c := Tryz.f73.body.getD .skip) (by kernel_rfl) (by kernel_rfl) (by kernel_rfl) rfl 0 rfl ?_
  repeat' (first | refine o1 ?_ | refine o2 ?_ | refine k1 ?_ | refine k2 ?_ | refine k3 ?_ | refine k4 ?_ | refine k6 ?_ | refine k7 ?_ | refine k8 ?_ | refine And.intro ?_ ?_ | exact trivial | refine o3 ?_ | refine o4 ?_ | refine o5 ?_ | refine o6 ?_ | refine k5 ?_ | (intro h; first | exact Bool.noConfusion h | exact nz _ h | exact nl h | (simp at h; done) | (simp at h; first | (exfalso; omega) | skip) | skip) | (change retOk _ _ _ _; refine ret_pure rfl trivial ?_) | exact (rfl : allOne _ = true) | (refine (?_ : (0 : Int) ≤ _); omega) | (refine (?_ : _ ≠ _); omega) | (refine (?_ : srcLen _ = rowsLen _); rfl) | exact Nat.le_of_ble_eq_true rfl | exact (by kernel_rfl : drawOk _ _ = true) | refine eqv_len_map ?_ | refine eqv_size ?_ | refine eqv_put (eqv_ck ?_) | refine eqv_zero ?_ | refine eqv_wrap (by omega) (by omega) ?_ | refine eqv_u64 (by omega) (by omega) ?_ | refine eqv_u8 (by omega) (by omega) ?_ | refine eqv_to _ (set_map rfl rfl) ?_ | refine ⟨_, _, (by first | rfl | assumption), at_map (by assumption), ?_⟩ | refine ⟨_, _, (by first | rfl | assumption), (by assumption), ?_⟩ | refine ⟨_, at_map (by assumption), (by decide), ?_⟩ | refine ⟨_, at_map (by assumption), ?_⟩ | (refine (?_ : _ ≤ 140737488355328); simp [rowsLen] <;> omega) | (refine (?_ : _ ≤ 9223372036854775807); simp [rowsLen] <;> omega) | (refine (?_ : _ = rowsLen _); simp [rowsLen] <;> omega) | refine eqv_to _ (app_row rfl) (eqv_to _ app_len ?_) | refine eqv_to _ (app_first rfl) (eqv_to 1 rfl ?_) | refine idx_sl (at_map (by assumption)) (by omega) ?_ | refine idx_ms _ (by first | rfl | assumption) (by first | assumption | omega) ?_ | fail)
  refine congrArg (vint .i64) ?_
  unfold addC
  simp only [cond_false]
  (repeat' split) <;> omega
theorem c_times19 (n c : Int) (hn : n ≤ 1000000 ∧ -2000000 ≤ n) (hc : 0 ≤ c ∧ c ≤ 1099511627776) : PCall Tryz.prog 117 [vint .i64 n, vint .i64 c] (fun r => r = vint .i64 (timesC n c)) := by
  refine acall_of tok mixed 13 rfl (fn := Tryz.f117) (c := Tryz.f117.body.getD .skip) (by kernel_rfl) (by kernel_rfl) (by kernel_rfl) rfl 0 rfl ?_
  repeat' (first | (refine eqv_mulB (by omega) (by omega) (fun _ => ?_)) | refine o1 ?_ | refine o2 ?_ | refine k1 ?_ | refine k2 ?_ | refine k3 ?_ | refine k4 ?_ | refine k6 ?_ | refine k7 ?_ | refine k8 ?_ | refine And.intro ?_ ?_ | exact trivial | refine o3 ?_ | refine o4 ?_ | refine o5 ?_ | refine o6 ?_ | refine k5 ?_ | (intro h; first | exact Bool.noConfusion h | exact nz _ h | exact nl h | (simp at h; done) | (simp at h; first | (exfalso; omega) | skip) | skip) | (change retOk _ _ _ _; refine ret_pure rfl trivial ?_) | exact (rfl : allOne _ = true) | (refine (?_ : (0 : Int) ≤ _); omega) | (refine (?_ : _ ≠ _); omega) | (refine (?_ : srcLen _ = rowsLen _); rfl) | exact Nat.le_of_ble_eq_true rfl | exact (by kernel_rfl : drawOk _ _ = true) | refine eqv_len_map ?_ | refine eqv_size ?_ | refine eqv_put (eqv_ck ?_) | refine eqv_zero ?_ | refine eqv_wrap (by omega) (by omega) ?_ | refine eqv_u64 (by omega) (by omega) ?_ | refine eqv_u8 (by omega) (by omega) ?_ | refine eqv_to _ (set_map rfl rfl) ?_ | refine ⟨_, _, (by first | rfl | assumption), at_map (by assumption), ?_⟩ | refine ⟨_, _, (by first | rfl | assumption), (by assumption), ?_⟩ | refine ⟨_, at_map (by assumption), (by decide), ?_⟩ | refine ⟨_, at_map (by assumption), ?_⟩ | (refine (?_ : _ ≤ 140737488355328); simp [rowsLen] <;> omega) | (refine (?_ : _ ≤ 9223372036854775807); simp [rowsLen] <;> omega) | (refine (?_ : _ = rowsLen _); simp [rowsLen] <;> omega) | refine eqv_to _ (app_row rfl) (eqv_to _ app_len ?_) | refine eqv_to _ (app_first rfl) (eqv_to 1 rfl ?_) | refine idx_sl (at_map (by assumption)) (by omega) ?_ | refine idx_ms _ (by first | rfl | assumption) (by first | assumption | omega) ?_ | fail)
  all_goals
    refine congrArg (vint .i64) ?_
    unfold timesC
    try simp only [cond_false]
    (repeat' split) <;> omega
theorem c_entry19 (m : Model) (p : Pair) (a b : Nat) (l : List Opt) (v : Int) (h1 : 0 ≤ p.second) (hl : m.classes[p.second.toNat]? = some l) (ha : a ≤ 100) (hb : b ≤ 100) (hn : l.length ≤ 100) (hv : p.table[a * l.length + b]? = some v) :
    PCall Tryz.prog 116 [ag m.cells, ag p.row, vint .i64 a, vint .i64 b] (fun r => r = vint .i64 v) := by
  refine acall_of tok mixed 24 rfl (fn := Tryz.f116) (c := Tryz.f116.body.getD .skip) (by kernel_rfl) (by kernel_rfl) (by kernel_rfl) rfl 0 rfl ?_
  have hab : a * l.length ≤ 100 * 100 := Nat.mul_le_mul ha hn
  repeat' (first | (refine idx_sl (k := p.second.toNat) (at_map hl) (by omega) ?_) | (refine eqv_mul (by omega) (by omega) (fun _ _ => ?_)) | (refine idx_sl (k := a * l.length + b) (at_map hv) (by simp) ?_) | refine o1 ?_ | refine o2 ?_ | refine k1 ?_ | refine k2 ?_ | refine k3 ?_ | refine k4 ?_ | refine k6 ?_ | refine k7 ?_ | refine k8 ?_ | refine And.intro ?_ ?_ | exact trivial | refine o3 ?_ | refine o4 ?_ | refine o5 ?_ | refine o6 ?_ | refine k5 ?_ | (intro h; first | exact Bool.noConfusion h | exact nz _ h | exact nl h | (simp at h; done) | (simp at h; first | (exfalso; omega) | skip) | skip) | (change retOk _ _ _ _; refine ret_pure rfl trivial ?_) | exact (rfl : allOne _ = true) | (refine (?_ : (0 : Int) ≤ _); omega) | (refine (?_ : _ ≠ _); omega) | (refine (?_ : srcLen _ = rowsLen _); rfl) | exact Nat.le_of_ble_eq_true rfl | exact (by kernel_rfl : drawOk _ _ = true) | refine eqv_len_map ?_ | refine eqv_size ?_ | refine eqv_put (eqv_ck ?_) | refine eqv_zero ?_ | refine eqv_wrap (by omega) (by omega) ?_ | refine eqv_u64 (by omega) (by omega) ?_ | refine eqv_u8 (by omega) (by omega) ?_ | refine eqv_to _ (set_map rfl rfl) ?_ | refine ⟨_, _, (by first | rfl | assumption), at_map (by assumption), ?_⟩ | refine ⟨_, _, (by first | rfl | assumption), (by assumption), ?_⟩ | refine ⟨_, at_map (by assumption), (by decide), ?_⟩ | refine ⟨_, at_map (by assumption), ?_⟩ | (refine (?_ : _ ≤ 140737488355328); simp [rowsLen] <;> omega) | (refine (?_ : _ ≤ 9223372036854775807); simp [rowsLen] <;> omega) | (refine (?_ : _ = rowsLen _); simp [rowsLen] <;> omega) | refine eqv_to _ (app_row rfl) (eqv_to _ app_len ?_) | refine eqv_to _ (app_first rfl) (eqv_to 1 rfl ?_) | refine idx_sl (at_map (by assumption)) (by omega) ?_ | refine idx_ms _ (by first | rfl | assumption) (by first | assumption | omega) ?_ | fail)
  all_goals first
    | rfl
theorem c_rpartial (m : Model) (plan : List Int) (hz : sizedP m) : PCall Tryz.prog 71 [ag m.cells, .pv (encInts plan)] (fun r => r = vbool (pB (plannedP m plan))) := by
  refine acall_of tok mixed 33 rfl (fn := Tryz.f71) (c := Tryz.f71.body.getD .skip) (by kernel_rfl) (by kernel_rfl) (by kernel_rfl) rfl 0 rfl ?_
  have hcn := hz.1
  repeat' (first | refine o1 ?_ | refine o2 ?_ | refine k1 ?_ | refine k2 ?_ | refine k3 ?_ | refine k4 ?_ | refine k6 ?_ | refine k7 ?_ | refine k8 ?_ | refine And.intro ?_ ?_ | exact trivial | refine o3 ?_ | refine o4 ?_ | refine o5 ?_ | refine o6 ?_ | refine k5 ?_ | (intro h; first | exact Bool.noConfusion h | exact nz _ h | exact nl h | (simp at h; done) | (simp at h; first | (exfalso; omega) | skip) | skip) | (change retOk _ _ _ _; refine ret_pure rfl trivial ?_) | exact (rfl : allOne _ = true) | (refine (?_ : (0 : Int) ≤ _); omega) | (refine (?_ : _ ≠ _); omega) | (refine (?_ : srcLen _ = rowsLen _); rfl) | exact Nat.le_of_ble_eq_true rfl | exact (by kernel_rfl : drawOk _ _ = true) | refine eqv_len_map ?_ | refine eqv_size ?_ | refine eqv_put (eqv_ck ?_) | refine eqv_zero ?_ | refine eqv_wrap (by omega) (by omega) ?_ | refine eqv_u64 (by omega) (by omega) ?_ | refine eqv_u8 (by omega) (by omega) ?_ | refine eqv_to _ (set_map rfl rfl) ?_ | refine ⟨_, _, (by first | rfl | assumption), at_map (by assumption), ?_⟩ | refine ⟨_, _, (by first | rfl | assumption), (by assumption), ?_⟩ | refine ⟨_, at_map (by assumption), (by decide), ?_⟩ | refine ⟨_, at_map (by assumption), ?_⟩ | (refine (?_ : _ ≤ 140737488355328); simp [rowsLen] <;> omega) | (refine (?_ : _ ≤ 9223372036854775807); simp [rowsLen] <;> omega) | (refine (?_ : _ = rowsLen _); simp [rowsLen] <;> omega) | refine eqv_to _ (app_row rfl) (eqv_to _ app_len ?_) | refine eqv_to _ (app_first rfl) (eqv_to 1 rfl ?_) | refine idx_sl (at_map (by assumption)) (by omega) ?_ | refine idx_ms _ (by first | rfl | assumption) (by first | assumption | omega) ?_ | fail)
  all_goals first
    | exact congrArg vbool (pB_f fun h => by have := h.1; omega).symm
    | skip
  have hpl : plan.length = m.classes.length := by omega
  refine loop_at (fun i : Nat => [(5, vint .i64 i)]) (fun _ => []) (fun i => i ≤ plan.length ∧ ∀ j, j < i → ∀ o, plan[j]? = some o → o = -1 ∨ optionP m j o) (fun i => plan.length - i) 0 ⟨by omega, fun j hj => by omega⟩ (by repeat' (first | exact trivial | exact rfl | exact ⟨_, rfl, ALe.refl⟩ | refine And.intro ?_ ?_)) (by repeat' (first | exact trivial | exact rfl | exact ⟨_, rfl, ALe.refl⟩ | refine And.intro ?_ ?_)) ?_
  intro i ⟨hi, hall⟩
  rcases Nat.lt_or_ge i plan.length with hlt | hge
  · obtain ⟨o, ho⟩ := getE hlt
    repeat' (first | (refine idx_sl (k := i) (at_map ho) (by omega) ?_) | refine o1 ?_ | refine o2 ?_ | refine k1 ?_ | refine k2 ?_ | refine k3 ?_ | refine k4 ?_ | refine k6 ?_ | refine k7 ?_ | refine k8 ?_ | refine And.intro ?_ ?_ | exact trivial | refine o3 ?_ | refine o4 ?_ | refine o5 ?_ | refine o6 ?_ | refine k5 ?_ | (intro h; first | exact Bool.noConfusion h | exact nz _ h | exact nl h | (simp at h; done) | (simp at h; first | (exfalso; omega) | skip) | skip) | (change retOk _ _ _ _; refine ret_pure rfl trivial ?_) | exact (rfl : allOne _ = true) | (refine (?_ : (0 : Int) ≤ _); omega) | (refine (?_ : _ ≠ _); omega) | (refine (?_ : srcLen _ = rowsLen _); rfl) | exact Nat.le_of_ble_eq_true rfl | exact (by kernel_rfl : drawOk _ _ = true) | refine eqv_len_map ?_ | refine eqv_size ?_ | refine eqv_put (eqv_ck ?_) | refine eqv_zero ?_ | refine eqv_wrap (by omega) (by omega) ?_ | refine eqv_u64 (by omega) (by omega) ?_ | refine eqv_u8 (by omega) (by omega) ?_ | refine eqv_to _ (set_map rfl rfl) ?_ | refine ⟨_, _, (by first | rfl | assumption), at_map (by assumption), ?_⟩ | refine ⟨_, _, (by first | rfl | assumption), (by assumption), ?_⟩ | refine ⟨_, at_map (by assumption), (by decide), ?_⟩ | refine ⟨_, at_map (by assumption), ?_⟩ | (refine (?_ : _ ≤ 140737488355328); simp [rowsLen] <;> omega) | (refine (?_ : _ ≤ 9223372036854775807); simp [rowsLen] <;> omega) | (refine (?_ : _ = rowsLen _); simp [rowsLen] <;> omega) | refine eqv_to _ (app_row rfl) (eqv_to _ app_len ?_) | refine eqv_to _ (app_first rfl) (eqv_to 1 rfl ?_) | refine idx_sl (at_map (by assumption)) (by omega) ?_ | refine idx_ms _ (by first | rfl | assumption) (by first | assumption | omega) ?_ | (change vcFun _ _ _ _ _; refine call_eq rfl (by repeat' (first | trivial | refine And.intro ?_ ?_ | (show 0 + _ ≤ List.length _; simp))) ALeL.refl (c_roption m i o) rfl ?_) | (change vcFunD _ _ _ _ _; refine callD_eq rfl (by repeat' (first | trivial | refine And.intro ?_ ?_ | (show 0 + _ ≤ List.length _; simp))) ALeL.refl (c_roption m i o) rfl ?_) | fail)
    all_goals first
      | (refine congrArg vbool (pB_f fun h => ?_).symm; exact (h.2 i hlt o ho).elim (fun g => absurd g (by assumption)) (fun g => absurd g (by assumption)))
      | exact ⟨i + 1, ⟨by omega, all_lt_succ hall fun o' h' => by rw [ho] at h'; cases h'; first | exact .inl (by omega) | exact .inr (by assumption)⟩, by omega, back [0] rfl rfl ⟨rfl, trivial⟩ (by repeat' (first | exact trivial | exact rfl | exact ⟨_, rfl, ALe.refl⟩ | refine And.intro ?_ ?_))⟩
  · repeat' (first | refine o1 ?_ | refine o2 ?_ | refine k1 ?_ | refine k2 ?_ | refine k3 ?_ | refine k4 ?_ | refine k6 ?_ | refine k7 ?_ | refine k8 ?_ | refine And.intro ?_ ?_ | exact trivial | refine o3 ?_ | refine o4 ?_ | refine o5 ?_ | refine o6 ?_ | refine k5 ?_ | (intro h; first | exact Bool.noConfusion h | exact nz _ h | exact nl h | (simp at h; done) | (simp at h; first | (exfalso; omega) | skip) | skip) | (change retOk _ _ _ _; refine ret_pure rfl trivial ?_) | exact (rfl : allOne _ = true) | (refine (?_ : (0 : Int) ≤ _); omega) | (refine (?_ : _ ≠ _); omega) | (refine (?_ : srcLen _ = rowsLen _); rfl) | exact Nat.le_of_ble_eq_true rfl | exact (by kernel_rfl : drawOk _ _ = true) | refine eqv_len_map ?_ | refine eqv_size ?_ | refine eqv_put (eqv_ck ?_) | refine eqv_zero ?_ | refine eqv_wrap (by omega) (by omega) ?_ | refine eqv_u64 (by omega) (by omega) ?_ | refine eqv_u8 (by omega) (by omega) ?_ | refine eqv_to _ (set_map rfl rfl) ?_ | refine ⟨_, _, (by first | rfl | assumption), at_map (by assumption), ?_⟩ | refine ⟨_, _, (by first | rfl | assumption), (by assumption), ?_⟩ | refine ⟨_, at_map (by assumption), (by decide), ?_⟩ | refine ⟨_, at_map (by assumption), ?_⟩ | (refine (?_ : _ ≤ 140737488355328); simp [rowsLen] <;> omega) | (refine (?_ : _ ≤ 9223372036854775807); simp [rowsLen] <;> omega) | (refine (?_ : _ = rowsLen _); simp [rowsLen] <;> omega) | refine eqv_to _ (app_row rfl) (eqv_to _ app_len ?_) | refine eqv_to _ (app_first rfl) (eqv_to 1 rfl ?_) | refine idx_sl (at_map (by assumption)) (by omega) ?_ | refine idx_ms _ (by first | rfl | assumption) (by first | assumption | omega) ?_ | fail)
    all_goals first
      | exact congrArg vbool (pB_t ⟨hpl, fun j hj => hall j (by omega)⟩).symm
end Go.Proofs.YtpnghlibmpainaaGreat.Cw

/-
  Plain laws: sums over pairs; the strain of a student; appending a whole list.
-/
namespace Go.Proofs.YtpnghlibmpainaaGreat.Cw
open Go Go.Cw Go.Proofs
set_option linter.unusedVariables false

/-- The sum of the first ones. -/
def sumN (f : Nat → Nat) : Nat → Nat
  | 0 => 0
  | n + 1 => sumN f n + f n
theorem sumN_congr {f g : Nat → Nat} : ∀ {n : Nat}, (∀ i, i < n → f i = g i) → sumN f n = sumN g n
  | 0, _ => rfl
  | n + 1, h => by rw [sumN, sumN, sumN_congr fun i hi => h i (by omega), h n (by omega)]
theorem sumN_zero {f : Nat → Nat} : ∀ {n : Nat}, (∀ i, i < n → f i = 0) → sumN f n = 0
  | 0, _ => rfl
  | n + 1, h => by rw [sumN, sumN_zero fun i hi => h i (by omega), h n (by omega)]
theorem sumN_add {f g : Nat → Nat} : ∀ {n : Nat}, sumN (fun i => f i + g i) n = sumN f n + sumN g n
  | 0 => rfl
  | n + 1 => by rw [sumN, sumN, sumN, sumN_add]; omega
theorem sumN_le {f : Nat → Nat} {b : Nat} : ∀ {n : Nat}, (∀ i, i < n → f i ≤ b) → sumN f n ≤ n * b
  | 0, _ => by simp [sumN]
  | n + 1, h => by
    have h1 := sumN_le (n := n) fun i hi => h i (by omega)
    have h2 := h n (by omega)
    rw [sumN, Nat.add_mul]; omega
/-- Over pairs: the later one outside, or inside. -/
theorem sumN_swap {g : Nat → Nat → Nat} : ∀ {n : Nat}, sumN (fun i => sumN (fun k => if i < k then g i k else 0) n) n = sumN (fun k => sumN (fun i => g i k) k) n
  | 0 => rfl
  | n + 1 => by
    have e : sumN (fun i => sumN (fun k => if i < k then g i k else 0) (n + 1)) n = sumN (fun i => sumN (fun k => if i < k then g i k else 0) n) n + sumN (fun i => g i n) n := by
      rw [← sumN_add]
      exact sumN_congr fun i hi => by rw [sumN, if_pos hi]
    have z : sumN (fun k => if n < k then g n k else 0) (n + 1) = 0 := sumN_zero fun k hk => if_neg (by omega)
    rw [sumN, e, z, sumN_swap, sumN]
    omega

/-- Whether exam i is one of the student's. -/
noncomputable def hasS (x : Exams) (s : Str) (i : Nat) : Bool := match x.exams[i]? with
  | some e => pB (s ∈ e.studs)
  | none => false
noncomputable def relQ (x : Exams) (a b : Nat) : Int := match x.sits[a]?, x.sits[b]? with
  | some s, some t => relE x a b s t
  | _, _ => -2
noncomputable def gS (x : Exams) (a : List Nat) (s : Str) (r : Int) (j i : Nat) : Nat := if hasS x s j = true ∧ hasS x s i = true ∧ relQ x (a.getD j 0) (a.getD i 0) = r then 1 else 0
noncomputable def totS (x : Exams) (a : List Nat) (s : Str) (r : Int) (n : Nat) : Nat := sumN (fun i => sumN (fun j => gS x a s r j i) i) n
noncomputable def strainR (x : Exams) (a : List Nat) (s : Str) : List PV := [es s, ei (totS x a s 2 x.exams.length), ei (totS x a s 3 x.exams.length), ei (totS x a s 4 x.exams.length)]
def eiN (n : Nat) : List PV := [ei n]

theorem hasS_at {x : Exams} {s : Str} {i : Nat} {e : Exam} (h : x.exams[i]? = some e) : hasS x s i = pB (s ∈ e.studs) := by unfold hasS; rw [h]
theorem relQ_at {x : Exams} {a b : Nat} {s t : Sitting} (ha : x.sits[a]? = some s) (hb : x.sits[b]? = some t) : relQ x a b = relE x a b s t := by unfold relQ; rw [ha, hb]
theorem gS_le {x : Exams} {a : List Nat} {s : Str} {r : Int} {j i : Nat} : gS x a s r j i ≤ 1 := by unfold gS; split <;> omega
theorem totS_le {x : Exams} {a : List Nat} {s : Str} {r : Int} {n : Nat} : totS x a s r n ≤ n * n := by
  refine sumN_le fun i hi => ?_
  have := sumN_le (f := fun j => gS x a s r j i) (n := i) fun j _ => gS_le
  omega
/-- The sittings of the student's first exams. -/
noncomputable def mineL (x : Exams) (a : List Nat) (s : Str) : Nat → List Nat
  | 0 => []
  | i + 1 => if hasS x s i = true then mineL x a s i ++ [a.getD i 0] else mineL x a s i
theorem mineL_len {x : Exams} {a : List Nat} {s : Str} : ∀ {i : Nat}, (mineL x a s i).length ≤ i
  | 0 => Nat.le_refl _
  | i + 1 => by
    have := mineL_len (x := x) (a := a) (s := s) (i := i)
    unfold mineL; split
    · rw [List.length_append]; simp; omega
    · omega
theorem mineL_mem {x : Exams} {a : List Nat} {s : Str} {p : Nat} : ∀ {i : Nat}, p ∈ mineL x a s i → ∃ j, j < i ∧ p = a.getD j 0
  | 0, h => by cases h
  | i + 1, h => by
    unfold mineL at h
    split at h
    · rcases List.mem_append.1 h with h | h
      · obtain ⟨j, hj, e⟩ := mineL_mem h; exact ⟨j, by omega, e⟩
      · exact ⟨i, by omega, by simpa using h⟩
    · obtain ⟨j, hj, e⟩ := mineL_mem h; exact ⟨j, by omega, e⟩
/-- So many of some sittings have a relation to one. -/
noncomputable def cntR (x : Exams) (q : Nat) (r : Int) (l : List Nat) : Nat := l.countP fun p => pB (relQ x p q = r)
theorem cntR_mine {x : Exams} {a : List Nat} {s : Str} {r : Int} {i : Nat} (h : hasS x s i = true) : ∀ {m : Nat}, cntR x (a.getD i 0) r (mineL x a s m) = sumN (fun j => gS x a s r j i) m
  | 0 => rfl
  | m + 1 => by
    have ih := cntR_mine (r := r) (a := a) h (m := m)
    rw [sumN, ← ih]
    by_cases hm : hasS x s m = true
    · rw [mineL, if_pos hm]
      unfold cntR gS
      rw [List.countP_append, List.countP_singleton]
      congr 1
      by_cases hr : relQ x (a.getD m 0) (a.getD i 0) = r
      · rw [if_pos (show hasS x s m = true ∧ hasS x s i = true ∧ relQ x (a.getD m 0) (a.getD i 0) = r from ⟨hm, h, hr⟩), if_pos (pB_t hr)]
      · rw [if_neg (show ¬ (hasS x s m = true ∧ hasS x s i = true ∧ relQ x (a.getD m 0) (a.getD i 0) = r) from fun k => hr k.2.2), if_neg (by rw [pB_f hr]; simp)]
    · have e : mineL x a s (m + 1) = mineL x a s m := by rw [mineL, if_neg hm]
      have z : gS x a s r m i = 0 := by unfold gS; exact if_neg fun k => hm k.1
      rw [e, z]; rfl
theorem totS_t {x : Exams} {a : List Nat} {s : Str} {r : Int} {i : Nat} (h : hasS x s i = true) : totS x a s r (i + 1) = totS x a s r i + cntR x (a.getD i 0) r (mineL x a s i) := by
  rw [cntR_mine h]; rfl
theorem totS_f {x : Exams} {a : List Nat} {s : Str} {r : Int} {i : Nat} (h : ¬ hasS x s i = true) : totS x a s r (i + 1) = totS x a s r i := by
  show totS x a s r i + sumN (fun j => gS x a s r j i) i = _
  rw [sumN_zero fun j _ => (show gS x a s r j i = 0 by unfold gS; exact if_neg fun k => h k.2.1)]; rfl
theorem cntR_take {x : Exams} {q p : Nat} {r : Int} {l : List Nat} {k : Nat} (h : l[k]? = some p) : cntR x q r (l.take (k + 1)) = cntR x q r (l.take k) + (if relQ x p q = r then 1 else 0) := by
  unfold cntR
  rw [List.take_add_one, h, List.countP_append]
  congr 1
  by_cases hr : relQ x p q = r
  · rw [if_pos hr]; simp [hr]
  · rw [if_neg hr]; simp [hr]
theorem cntR_le {x : Exams} {q : Nat} {r : Int} {l : List Nat} : cntR x q r l ≤ l.length := List.countP_le_length
/-- The reference's sums: the earlier exam outside. -/
noncomputable def inS (x : Exams) (a : List Nat) (s : Str) (r : Int) (i k : Nat) : Nat := sumN (fun k => if i < k then gS x a s r i k else 0) k
noncomputable def outS (x : Exams) (a : List Nat) (s : Str) (r : Int) (i : Nat) : Nat := sumN (fun i => inS x a s r i x.exams.length) i
section
variable {P : Program} {T : Tab} {id z ty : Nat} {rows ys : List (List PV)}
/-- A whole list is appended. -/
theorem st_appL {site b size bytes : Nat} {agg eagg : Bool} {zero ezero : List PV} {etk : TK} {s x : Operand} {t : TypeId} {d : Tmp} {Γ : Slots} {H : Heap} {K : Slots → Heap → Prop} (hs : ev Γ s = some (slP id z rows)) (hx : ev Γ x = some (.pv (.sl z ys))) (hl : Cw.look T t = some ⟨size, bytes, agg, .slice ty, zero⟩) (he : Cw.look T ty = some ⟨z, b, eagg, etk, ezero⟩) (hz : Nat.blt 0 z = true)
    (ho : H[id]? = some (obP ty z rows)) (hsite : H[site]? = some none) (hb : (rows.length + ys.length) * b ≤ 140737488355328) (hn : rows.length + ys.length ≤ 9223372036854775807)
    (h : forceH (app H [(id, none), (site, obP ty z (rows ++ ys))]) fun H2 => K ((d, slP site z (rows ++ ys)) :: Γ) H2) :
    vcStep P T site (some d) (.call { callee := .builtin .append, args := #[s, x], argTypes := #[t, t] }) Γ H K := by
  have hbq : Nat.beq t t = true := Nat.beq_refl t
  have hzz : Nat.beq z z = true := Nat.beq_refl z
  have hty : Nat.beq ty ty = true := Nat.beq_refl ty
  rw [forceH_eq] at h
  cases rows with
  | nil =>
    rw [app_none ho] at h
    simp only [vcStep, vcOp, hbq, hs, hx, vcAppend, hl, he, srcOk, hzz, hz, srcRows, Bool.and_self, Bool.true_and, slP, nilA, eqv_eq, putK, forceV, appK, forceH_eq]
    cases ys with
    | nil =>
      have e : app H [(site, obP ty z ([] ++ []))] = H := by
        show H.set site none = H
        apply List.ext_getElem?
        intro k
        rw [List.getElem?_set]
        by_cases e : site = k
        · subst e
          rw [if_pos rfl, if_pos (List.getElem?_eq_some_iff.1 hsite).1, hsite]
        · rw [if_neg e]
      rw [e] at h
      exact ⟨rfl, by simp [rowsLen], by simp [rowsLen], fun e => by simp [rowsLen] at e, fun _ => h⟩
    | cons a l =>
      refine ⟨rfl, by simpa [rowsLen] using hb, by simpa [rowsLen] using hn, fun _ => ?_, fun e => by simp [rowsLen] at e⟩
      exact h
  | cons a l =>
    simp only [vcStep, vcOp, hbq, hs, hx, vcAppend, hl, he, srcOk, hzz, hz, srcRows, ho, obP, Bool.and_self, Bool.true_and, slP, eqv_eq, putK, forceV, appK, forceH_eq, Bool.not_false, hty, dropR, catRows, List.drop_zero]
    have el : rowsLen (.p (a :: l ++ ys)) = (a :: l).length + ys.length := by simp only [rowsLen, List.length_append]
    refine ⟨by simp [rowsLen], rfl, by rw [el]; exact hb, by rw [el]; exact hn, ?_⟩
    have e : rowsLen (.p (a :: l ++ ys)) = (a :: (l ++ ys)).length := by simp [rowsLen]
    rw [e]
    exact h
theorem o_appL {n site b size bytes : Nat} {agg eagg : Bool} {zero ezero : List PV} {etk : TK} {s x : Operand} {t : TypeId} {d : Tmp} {Γ : Slots} {H : Heap} {K : Slots → Heap → Prop} {o : Oper} {all l : List Oper} {dc : Known}
    (hop : o.op = .call { callee := .builtin .append, args := #[s, x], argTypes := #[t, t] }) (hg : o.guard = none) (hd : o.dst = some d) (hdn : Nat.blt d n = true) (hs : ev Γ s = some (slP id z rows)) (hx : ev Γ x = some (.pv (.sl z ys))) (hl : Cw.look T t = some ⟨size, bytes, agg, .slice ty, zero⟩) (he : Cw.look T ty = some ⟨z, b, eagg, etk, ezero⟩) (hz : Nat.blt 0 z = true)
    (ho : H[id]? = some (obP ty z rows)) (hsite : H[site]? = some none) (hb : (rows.length + ys.length) * b ≤ 140737488355328) (hn : rows.length + ys.length ≤ 9223372036854775807)
    (h : knOut dc d fun d2 => forceH (app H [(id, none), (site, obP ty z (rows ++ ys))]) fun H2 => xOps P T n all l (site + 1) K d2 ((d, slP site z (rows ++ ys)) :: Γ) H2) :
    xOps P T n all (o :: l) site K dc Γ H := by
  refine ops_cons ?_
  have e1 : dstOk n o = true := by unfold dstOk; rw [hd]; exact hdn
  have e2 : isAlloc o.op = true := by rw [hop]; rfl
  rw [e1, e2]
  show vcGuard all Γ dc o.guard _ _
  rw [hg]
  simp only [vcGuard, knPut, hd, hop, knRes, simpOp]
  exact knOut_mono dc _ _ (fun d2 hh => st_appL hs hx hl he hz ho hsite hb hn hh) h
end
end Go.Proofs.YtpnghlibmpainaaGreat.Cw

/-
  Contracts: the rules' costs of a plan.
-/
namespace Go.Proofs.YtpnghlibmpainaaGreat.Cw
open Go Go.Cw Go.Proofs
set_option linter.unusedVariables false
set_option maxRecDepth 100000
set_option maxHeartbeats 4000000

def eiI (n : Int) : List PV := [ei n]
theorem model_good {m : Model} (h : modelE m = 0) : goodP m := Classical.byContradiction fun hn => by rw [mE1 (model_sized h) hn] at h; cases h
theorem priceP_bnd {n : Int} (h : priceP n) : 0 ≤ n ∧ n ≤ 1099511627776 := by unfold priceP at h; omega
theorem chgT_at {m : Model} {plan : List Int} {i k : Nat} {l : List Opt} {x : Opt} (hl : m.classes[i]? = some l) (ho : plan[i]? = some (k : Int)) (hx : l[k]? = some x) : chgT m plan i = x.charges.map fun c => (c.rule, c.cost) := by
  unfold chgT; rw [hl, ho]; dsimp only
  rw [if_neg (by omega), Int.toNat_natCast, hx]
theorem chgT_neg {m : Model} {plan : List Int} {i : Nat} {o : Int} (ho : plan[i]? = some o) (h : o < 0) : chgT m plan i = [] := by
  unfold chgT
  split
  · rename_i l o' hl ho'
    rw [ho] at ho'; cases ho'
    rw [if_pos h]
  · rfl
theorem chgT_ok {m : Model} (g : goodP m) {plan : List Int} {i : Nat} : ∀ t ∈ chgT m plan i, TermOk m t := by
  intro t ht
  unfold chgT at ht
  split at ht
  · rename_i l o hl ho
    split at ht
    · cases ht
    · split at ht
      · rename_i x hx
        obtain ⟨c, hc, rfl⟩ := List.mem_map.1 ht
        obtain ⟨k, hk⟩ := List.getElem?_of_mem hc
        have := g.1 l (List.mem_of_getElem? hl) x (List.mem_of_getElem? hx) k (List.getElem?_eq_some_iff.1 hk).1 c hk
        exact ⟨this.1, priceP_bnd this.2.1⟩
      · cases ht
  · cases ht
theorem run_next {m : Model} {T : List Term1} {r c v : Int} (h0 : (runC m T)[r.toNat]? = some v) : (runC m T).set r.toNat (addC v c) = runC m (T ++ [(r, c)]) := by
  rw [run_snoc]; unfold upC; dsimp only; rw [h0]; rfl

theorem pairT_some {m : Model} {plan : List Int} {p : Pair} {a b : Int} (h1 : plan[p.first.toNat]? = some a) (h2 : plan[p.second.toNat]? = some b) (ha : 0 ≤ a) (hb : 0 ≤ b) : pairT m plan p = some (p.rule, entV m p a b) := by
  unfold pairT; rw [h1, h2]; dsimp only; rw [if_pos ⟨ha, hb⟩]
theorem pairT_none {m : Model} {plan : List Int} {p : Pair} {a b : Int} (h1 : plan[p.first.toNat]? = some a) (h2 : plan[p.second.toNat]? = some b) (h : a < 0 ∨ b < 0) : pairT m plan p = none := by
  unfold pairT; rw [h1, h2]; dsimp only; rw [if_neg (by omega)]
theorem entV_at {m : Model} {p : Pair} {a b : Nat} {l : List Opt} {v : Int} (hl : m.classes[p.second.toNat]? = some l) (hv : p.table[a * l.length + b]? = some v) : entV m p a b = v := by
  unfold entV; rw [hl]; dsimp only
  rw [show ((a : Int) * l.length + b).toNat = a * l.length + b from by
    rw [← Int.natCast_mul, ← Int.natCast_add, Int.toNat_natCast], hv]; rfl
theorem pairT_ok {m : Model} {plan : List Int} {p : Pair} {t : Term1} (h : pairP m p) (ht : pairT m plan p = some t) : TermOk m t := by
  unfold pairT at ht
  split at ht
  · rename_i a b h1 h2
    split at ht
    · injection ht with ht
      subst ht
      refine ⟨h.1, ?_⟩
      show 0 ≤ entV m p a b ∧ entV m p a b ≤ 1099511627776
      unfold entV
      split
      · rename_i l hl
        cases hv : p.table[(a * l.length + b).toNat]? with
        | none => exact ⟨by decide, by decide⟩
        | some v =>
          rcases h.2.2.2.2 v (List.mem_of_getElem? hv) with e | e
          · rw [e]; exact ⟨by decide, by decide⟩
          · exact priceP_bnd e
      · exact ⟨by decide, by decide⟩
    · cases ht
  · cases ht
theorem prsT_ok {m : Model} (g : goodP m) {plan : List Int} {n : Nat} : ∀ t ∈ prsT m plan n, TermOk m t := by
  intro t ht
  obtain ⟨i, p, -, hp, h⟩ := upto_mem.1 ht
  exact pairT_ok (g.2.1 i (List.getElem?_eq_some_iff.1 hp).1 p hp).1 h
theorem timesC_bnd {n c : Int} (hc : 0 ≤ c) : 0 ≤ timesC n c ∧ timesC n c ≤ 1099511627776 := by
  unfold timesC
  split
  · omega
  · have : 0 ≤ n * c := Int.mul_nonneg (by omega) hc
    (repeat' split) <;> omega
theorem cntsT_ok {m : Model} (g : goodP m) {plan : List Int} {n : Nat} : ∀ t ∈ cntsT m plan n, TermOk m t := by
  intro t ht
  obtain ⟨c, hc, rfl⟩ := List.mem_map.1 ht
  have := g.2.2 c (List.mem_of_mem_take hc)
  exact ⟨this.1, timesC_bnd (priceP_bnd this.2.2.2.1).1⟩
theorem loadT_snoc {plan : List Int} {l : List Load} {k : Nat} {x : Load} (h : l[k]? = some x) : loadT plan l (k + 1) = loadT plan l k + if pB (hitP plan x) then x.weight else 0 := by
  unfold loadT; rw [take_snoc h, List.map_append, List.sum_append]; simp
theorem cntsT_snoc {m : Model} {plan : List Int} {k : Nat} {c : Count} (h : m.counts[k]? = some c) : cntsT m plan (k + 1) = cntsT m plan k ++ [cntT plan c] := by
  unfold cntsT; rw [take_snoc h, List.map_append]; rfl
theorem all_app {α : Type} {P : α → Prop} {a b : List α} (h1 : ∀ x ∈ a, P x) (h2 : ∀ x ∈ b, P x) : ∀ x ∈ a ++ b, P x := fun x hx => (List.mem_append.1 hx).elim (h1 x) (h2 x)
theorem gr_ok {m : Model} (g : goodP m) {plan : List Int} {n : Nat} : ∀ t ∈ gr (chgT m plan) n, TermOk m t := fun t ht => by
  obtain ⟨i, -, h⟩ := gr_mem.1 ht
  exact chgT_ok g t h
/-- What there is of a rule's cost so far. -/
theorem run_get {m : Model} {T : List Term1} {r : Int} (hT : ∀ t ∈ T, TermOk m t) (hr : ruleP m r) : ∃ v, (runC m T)[r.toNat]? = some v ∧ (0 ≤ v ∧ v ≤ 1099511627776) := by
  obtain ⟨v, hv⟩ := getE (show r.toNat < (runC m T).length by rw [run_len]; have := hr.1; have := hr.2; omega)
  exact ⟨v, hv, run_bnd (m := m) (fun t ht => (hT t ht).2.1) v (List.mem_of_getElem? hv)⟩

theorem loadT_bnd {plan : List Int} {l : List Load} (h : ∀ x ∈ l, 0 ≤ x.weight ∧ x.weight ≤ 1000) : ∀ {k : Nat}, k ≤ l.length → 0 ≤ loadT plan l k ∧ loadT plan l k ≤ 1000 * k
  | 0, _ => by unfold loadT; simp
  | k + 1, hk => by
    obtain ⟨x, hx⟩ := getE (show k < l.length by omega)
    rw [loadT_snoc hx]
    have h1 := loadT_bnd (plan := plan) h (k := k) (by omega)
    have h2 := h x (List.mem_of_getElem? hx)
    split <;> omega
theorem hit_iff {plan : List Int} {x : Load} {o : Int} (h : plan[x.cls.toNat]? = some o) : hitP plan x ↔ o = x.opt := by
  unfold hitP; rw [h]; simp

theorem c_rules19 (m : Model) (plan : List Int) (h0 : modelE m = 0) (hl : Laid m) (hp : plannedP m plan) (hc : ∀ c ∈ m.counts, c.loads.length ≤ 100) : PCall Tryz.prog 72 [ag m.cells, .pv (encInts plan)] (fun r => r = .pv (encInts (rulesV m plan))) := by
  have hz := model_sized h0
  have hcn := hz.1
  have hru := hz.2.2.2.2
  have g := model_good h0
  have hpl := hp.1
  refine acall_of tok mixed 178 rfl (fn := Tryz.f72) (c := Tryz.f72.body.getD .skip) (by kernel_rfl) (by kernel_rfl) (by kernel_rfl) rfl 0 rfl ?_
  repeat' (first | (refine ⟨m.rules.toNat, m.rules.toNat, by omega, by omega, Nat.le_refl _, by omega, by omega, ?_⟩) | (refine eqv_to ((zeroC m).map eiI) (by unfold zeroC; rw [List.map_replicate]; rfl) ?_) | refine o1 ?_ | refine o2 ?_ | refine k1 ?_ | refine k2 ?_ | refine k3 ?_ | refine k4 ?_ | refine k6 ?_ | refine k7 ?_ | refine k8 ?_ | refine And.intro ?_ ?_ | exact trivial | refine o3 ?_ | refine o4 ?_ | refine o5 ?_ | refine o6 ?_ | refine k5 ?_ | (intro h; first | exact Bool.noConfusion h | exact nz _ h | exact nl h | (simp at h; done) | (simp at h; first | (exfalso; omega) | skip) | skip) | (change retOk _ _ _ _; refine ret_pure rfl trivial ?_) | exact (rfl : allOne _ = true) | (refine (?_ : (0 : Int) ≤ _); omega) | (refine (?_ : _ ≠ _); omega) | (refine (?_ : srcLen _ = rowsLen _); rfl) | exact Nat.le_of_ble_eq_true rfl | exact (by kernel_rfl : drawOk _ _ = true) | refine eqv_len_map ?_ | refine eqv_size ?_ | refine eqv_put (eqv_ck ?_) | refine eqv_zero ?_ | refine eqv_wrap (by omega) (by omega) ?_ | refine eqv_u64 (by omega) (by omega) ?_ | refine eqv_u8 (by omega) (by omega) ?_ | refine eqv_to _ (set_map rfl rfl) ?_ | refine ⟨_, _, (by first | rfl | assumption), at_map (by assumption), ?_⟩ | refine ⟨_, _, (by first | rfl | assumption), (by assumption), ?_⟩ | refine ⟨_, at_map (by assumption), (by decide), ?_⟩ | refine ⟨_, at_map (by assumption), ?_⟩ | (refine (?_ : _ ≤ 140737488355328); simp [rowsLen] <;> omega) | (refine (?_ : _ ≤ 9223372036854775807); simp [rowsLen] <;> omega) | (refine (?_ : _ = rowsLen _); simp [rowsLen] <;> omega) | refine eqv_to _ (app_row rfl) (eqv_to _ app_len ?_) | refine eqv_to _ (app_first rfl) (eqv_to 1 rfl ?_) | refine idx_sl (at_map (by assumption)) (by omega) ?_ | refine idx_ms _ (by first | rfl | assumption) (by first | assumption | omega) ?_ | fail)
  refine loop_for (fun i : Nat => [(1, .pv (encInts plan)), (2, .ptr 0 4 0 0), (5, .ms 1 1 0 m.rules.toNat), (6, vint .i64 i)])
    (fun i => [mbox m, some ⟨3, 1, false, .p ((runC m (gr (chgT m plan) i)).map eiI)⟩]) (fun i => i ≤ plan.length) (fun i => plan.length - i) 0 (Nat.zero_le _) ?_ ?_
  · exact back [0, 1] rfl rfl (by repeat' (first | exact trivial | exact rfl | exact ren_get rfl | refine kept_ob rfl ?_ | exact ⟨_, rfl, ALe.refl⟩ | refine And.intro ?_ ?_)) (by repeat' (first | exact trivial | exact rfl | exact ren_get rfl | refine kept_ob rfl ?_ | exact ⟨_, rfl, ALe.refl⟩ | refine And.intro ?_ ?_))
  intro i hi
  rcases Nat.lt_or_ge i plan.length with hlt | hge
  · obtain ⟨o, ho⟩ := getE hlt
    rcases hp.2 i hlt o ho with rfl | hopt
    · have hn := chgT_neg (m := m) ho (by decide)
      repeat' (first | (refine idx_sl (k := i) (at_map ho) (by omega) ?_) | (refine idx_ms i rfl (by omega) ?_) | (refine ⟨_, at_map (f := eiI) ho, ?_⟩) | refine o1 ?_ | refine o2 ?_ | refine k1 ?_ | refine k2 ?_ | refine k3 ?_ | refine k4 ?_ | refine k6 ?_ | refine k7 ?_ | refine k8 ?_ | refine And.intro ?_ ?_ | exact trivial | refine o3 ?_ | refine o4 ?_ | refine o5 ?_ | refine o6 ?_ | refine k5 ?_ | (intro h; first | exact Bool.noConfusion h | exact nz _ h | exact nl h | (simp at h; done) | (simp at h; first | (exfalso; omega) | skip) | skip) | (change retOk _ _ _ _; refine ret_pure rfl trivial ?_) | exact (rfl : allOne _ = true) | (refine (?_ : (0 : Int) ≤ _); omega) | (refine (?_ : _ ≠ _); omega) | (refine (?_ : srcLen _ = rowsLen _); rfl) | exact Nat.le_of_ble_eq_true rfl | exact (by kernel_rfl : drawOk _ _ = true) | refine eqv_len_map ?_ | refine eqv_size ?_ | refine eqv_put (eqv_ck ?_) | refine eqv_zero ?_ | refine eqv_wrap (by omega) (by omega) ?_ | refine eqv_u64 (by omega) (by omega) ?_ | refine eqv_u8 (by omega) (by omega) ?_ | refine eqv_to _ (set_map rfl rfl) ?_ | refine ⟨_, _, (by first | rfl | assumption), at_map (by assumption), ?_⟩ | refine ⟨_, _, (by first | rfl | assumption), (by assumption), ?_⟩ | refine ⟨_, at_map (by assumption), (by decide), ?_⟩ | refine ⟨_, at_map (by assumption), ?_⟩ | (refine (?_ : _ ≤ 140737488355328); simp [rowsLen] <;> omega) | (refine (?_ : _ ≤ 9223372036854775807); simp [rowsLen] <;> omega) | (refine (?_ : _ = rowsLen _); simp [rowsLen] <;> omega) | refine eqv_to _ (app_row rfl) (eqv_to _ app_len ?_) | refine eqv_to _ (app_first rfl) (eqv_to 1 rfl ?_) | refine idx_sl (at_map (by assumption)) (by omega) ?_ | refine idx_ms _ (by first | rfl | assumption) (by first | assumption | omega) ?_ | fail)
      refine ⟨i + 1, hlt, by omega, ?_⟩
      rw [gr_succ, hn, List.append_nil]
      exact back [0, 1] rfl rfl (by repeat' (first | exact trivial | exact rfl | exact ren_get rfl | refine kept_ob rfl ?_ | exact ⟨_, rfl, ALe.refl⟩ | refine And.intro ?_ ?_)) (by repeat' (first | exact trivial | exact rfl | exact ren_get rfl | refine kept_ob rfl ?_ | exact ⟨_, rfl, ALe.refl⟩ | refine And.intro ?_ ?_))
    · obtain ⟨-, g2, l, hl1, hol⟩ := hopt
      rw [Int.toNat_natCast] at hl1
      obtain ⟨n, rfl⟩ := Int.eq_ofNat_of_zero_le g2
      obtain ⟨x, hx⟩ := getE (show n < l.length by omega)
      have hct := chgT_at hl1 ho hx
      have hxn := hl.ch l (List.mem_of_getElem? hl1) x (List.mem_of_getElem? hx)
      repeat' (first | (refine idx_sl (k := i) (at_map ho) (by omega) ?_) | (refine idx_ms i rfl (by omega) ?_) | (refine ⟨_, at_map (f := eiI) ho, ?_⟩) | (refine idx_sl (k := i) (at_map hl1) (by omega) ?_) | (refine idx_sl (k := n) (at_map hx) (by omega) ?_) | refine o1 ?_ | refine o2 ?_ | refine k1 ?_ | refine k2 ?_ | refine k3 ?_ | refine k4 ?_ | refine k6 ?_ | refine k7 ?_ | refine k8 ?_ | refine And.intro ?_ ?_ | exact trivial | refine o3 ?_ | refine o4 ?_ | refine o5 ?_ | refine o6 ?_ | refine k5 ?_ | (intro h; first | exact Bool.noConfusion h | exact nz _ h | exact nl h | (simp at h; done) | (simp at h; first | (exfalso; omega) | skip) | skip) | (change retOk _ _ _ _; refine ret_pure rfl trivial ?_) | exact (rfl : allOne _ = true) | (refine (?_ : (0 : Int) ≤ _); omega) | (refine (?_ : _ ≠ _); omega) | (refine (?_ : srcLen _ = rowsLen _); rfl) | exact Nat.le_of_ble_eq_true rfl | exact (by kernel_rfl : drawOk _ _ = true) | refine eqv_len_map ?_ | refine eqv_size ?_ | refine eqv_put (eqv_ck ?_) | refine eqv_zero ?_ | refine eqv_wrap (by omega) (by omega) ?_ | refine eqv_u64 (by omega) (by omega) ?_ | refine eqv_u8 (by omega) (by omega) ?_ | refine eqv_to _ (set_map rfl rfl) ?_ | refine ⟨_, _, (by first | rfl | assumption), at_map (by assumption), ?_⟩ | refine ⟨_, _, (by first | rfl | assumption), (by assumption), ?_⟩ | refine ⟨_, at_map (by assumption), (by decide), ?_⟩ | refine ⟨_, at_map (by assumption), ?_⟩ | (refine (?_ : _ ≤ 140737488355328); simp [rowsLen] <;> omega) | (refine (?_ : _ ≤ 9223372036854775807); simp [rowsLen] <;> omega) | (refine (?_ : _ = rowsLen _); simp [rowsLen] <;> omega) | refine eqv_to _ (app_row rfl) (eqv_to _ app_len ?_) | refine eqv_to _ (app_first rfl) (eqv_to 1 rfl ?_) | refine idx_sl (at_map (by assumption)) (by omega) ?_ | refine idx_ms _ (by first | rfl | assumption) (by first | assumption | omega) ?_ | fail)
      refine loop_for (fun k : Nat => [(1, .pv (encInts plan)), (2, .ptr 0 4 0 0), (5, .ms 1 1 0 m.rules.toNat), (6, vint .i64 i), (7, .pv (.sl 2 (x.charges.map Charge.row))), (8, vint .i64 k)])
        (fun k => [mbox m, some ⟨3, 1, false, .p ((runC m (gr (chgT m plan) i ++ (chgT m plan i).take k)).map eiI)⟩]) (fun k => k ≤ x.charges.length) (fun k => x.charges.length - k) 0 (Nat.zero_le _) ?_ ?_
      · rw [List.take_zero, List.append_nil]
        exact back [0, 1] rfl rfl (by repeat' (first | exact trivial | exact rfl | exact ren_get rfl | refine kept_ob rfl ?_ | exact ⟨_, rfl, ALe.refl⟩ | refine And.intro ?_ ?_)) (by repeat' (first | exact trivial | exact rfl | exact ren_get rfl | refine kept_ob rfl ?_ | exact ⟨_, rfl, ALe.refl⟩ | refine And.intro ?_ ?_))
      intro k hk
      rcases Nat.lt_or_ge k x.charges.length with hlt2 | hge2
      · obtain ⟨c, hck⟩ := getE hlt2
        have ht : (chgT m plan i)[k]? = some (c.rule, c.cost) := by rw [hct, List.getElem?_map, hck]; rfl
        have hcok := chgT_ok g _ (List.mem_of_getElem? ht)
        have hru := hcok.1
        obtain ⟨v, hv, hvb⟩ := run_get (all_app (gr_ok g (plan := plan) (n := i)) fun t ht => chgT_ok g t (List.mem_of_mem_take ht)) hcok.1
        have hr2 := hcok.1.2
        have hr1 := hcok.1.1
        dsimp only at hr1 hr2
        have had := c_add19 v c.cost hvb hcok.2
        have hnx := run_next (c := c.cost) hv
        have hv2 := at_map (f := eiI) hv
        repeat' (first | (refine idx_sl (k := k) (at_map hck) (by omega) ?_) | (refine idx_ms c.rule.toNat (by omega) (by omega) ?_) | (refine ⟨_, hv2, ?_⟩) | (refine eqv_to _ (set_map (f := eiI) (y := addC v c.cost) rfl rfl) ?_) | refine o1 ?_ | refine o2 ?_ | refine k1 ?_ | refine k2 ?_ | refine k3 ?_ | refine k4 ?_ | refine k6 ?_ | refine k7 ?_ | refine k8 ?_ | refine And.intro ?_ ?_ | exact trivial | refine o3 ?_ | refine o4 ?_ | refine o5 ?_ | refine o6 ?_ | refine k5 ?_ | (intro h; first | exact Bool.noConfusion h | exact nz _ h | exact nl h | (simp at h; done) | (simp at h; first | (exfalso; omega) | skip) | skip) | (change retOk _ _ _ _; refine ret_pure rfl trivial ?_) | exact (rfl : allOne _ = true) | (refine (?_ : (0 : Int) ≤ _); omega) | (refine (?_ : _ ≠ _); omega) | (refine (?_ : srcLen _ = rowsLen _); rfl) | exact Nat.le_of_ble_eq_true rfl | exact (by kernel_rfl : drawOk _ _ = true) | refine eqv_len_map ?_ | refine eqv_size ?_ | refine eqv_put (eqv_ck ?_) | refine eqv_zero ?_ | refine eqv_wrap (by omega) (by omega) ?_ | refine eqv_u64 (by omega) (by omega) ?_ | refine eqv_u8 (by omega) (by omega) ?_ | refine eqv_to _ (set_map rfl rfl) ?_ | refine ⟨_, _, (by first | rfl | assumption), at_map (by assumption), ?_⟩ | refine ⟨_, _, (by first | rfl | assumption), (by assumption), ?_⟩ | refine ⟨_, at_map (by assumption), (by decide), ?_⟩ | refine ⟨_, at_map (by assumption), ?_⟩ | (refine (?_ : _ ≤ 140737488355328); simp [rowsLen] <;> omega) | (refine (?_ : _ ≤ 9223372036854775807); simp [rowsLen] <;> omega) | (refine (?_ : _ = rowsLen _); simp [rowsLen] <;> omega) | refine eqv_to _ (app_row rfl) (eqv_to _ app_len ?_) | refine eqv_to _ (app_first rfl) (eqv_to 1 rfl ?_) | refine idx_sl (at_map (by assumption)) (by omega) ?_ | refine idx_ms _ (by first | rfl | assumption) (by first | assumption | omega) ?_ | (change vcFunD _ _ _ _ _; refine callD_eq rfl (by repeat' (first | trivial | refine And.intro ?_ ?_ | (show 0 + _ ≤ List.length _; simp))) ALeL.refl (had) rfl ?_) | fail)
        refine ⟨k + 1, hlt2, by omega, ?_⟩
        rw [take_snoc ht, ← List.append_assoc, ← hnx]
        exact back [0, 1] rfl rfl (by repeat' (first | exact trivial | exact rfl | exact ren_get rfl | refine kept_ob rfl ?_ | exact ⟨_, rfl, ALe.refl⟩ | refine And.intro ?_ ?_)) (by repeat' (first | exact trivial | exact rfl | exact ren_get rfl | refine kept_ob rfl ?_ | exact ⟨_, rfl, ALe.refl⟩ | refine And.intro ?_ ?_))
      · repeat' (first | refine o1 ?_ | refine o2 ?_ | refine k1 ?_ | refine k2 ?_ | refine k3 ?_ | refine k4 ?_ | refine k6 ?_ | refine k7 ?_ | refine k8 ?_ | refine And.intro ?_ ?_ | exact trivial | refine o3 ?_ | refine o4 ?_ | refine o5 ?_ | refine o6 ?_ | refine k5 ?_ | (intro h; first | exact Bool.noConfusion h | exact nz _ h | exact nl h | (simp at h; done) | (simp at h; first | (exfalso; omega) | skip) | skip) | (change retOk _ _ _ _; refine ret_pure rfl trivial ?_) | exact (rfl : allOne _ = true) | (refine (?_ : (0 : Int) ≤ _); omega) | (refine (?_ : _ ≠ _); omega) | (refine (?_ : srcLen _ = rowsLen _); rfl) | exact Nat.le_of_ble_eq_true rfl | exact (by kernel_rfl : drawOk _ _ = true) | refine eqv_len_map ?_ | refine eqv_size ?_ | refine eqv_put (eqv_ck ?_) | refine eqv_zero ?_ | refine eqv_wrap (by omega) (by omega) ?_ | refine eqv_u64 (by omega) (by omega) ?_ | refine eqv_u8 (by omega) (by omega) ?_ | refine eqv_to _ (set_map rfl rfl) ?_ | refine ⟨_, _, (by first | rfl | assumption), at_map (by assumption), ?_⟩ | refine ⟨_, _, (by first | rfl | assumption), (by assumption), ?_⟩ | refine ⟨_, at_map (by assumption), (by decide), ?_⟩ | refine ⟨_, at_map (by assumption), ?_⟩ | (refine (?_ : _ ≤ 140737488355328); simp [rowsLen] <;> omega) | (refine (?_ : _ ≤ 9223372036854775807); simp [rowsLen] <;> omega) | (refine (?_ : _ = rowsLen _); simp [rowsLen] <;> omega) | refine eqv_to _ (app_row rfl) (eqv_to _ app_len ?_) | refine eqv_to _ (app_first rfl) (eqv_to 1 rfl ?_) | refine idx_sl (at_map (by assumption)) (by omega) ?_ | refine idx_ms _ (by first | rfl | assumption) (by first | assumption | omega) ?_ | fail)
        refine ⟨i + 1, hlt, by omega, ?_⟩
        rw [gr_succ, List.take_of_length_le (by rw [hct, List.length_map]; omega)]
        exact back [0, 1] rfl rfl (by repeat' (first | exact trivial | exact rfl | exact ren_get rfl | refine kept_ob rfl ?_ | exact ⟨_, rfl, ALe.refl⟩ | refine And.intro ?_ ?_)) (by repeat' (first | exact trivial | exact rfl | exact ren_get rfl | refine kept_ob rfl ?_ | exact ⟨_, rfl, ALe.refl⟩ | refine And.intro ?_ ?_))
  obtain rfl : i = plan.length := by omega
  repeat' (first | refine o1 ?_ | refine o2 ?_ | refine k1 ?_ | refine k2 ?_ | refine k3 ?_ | refine k4 ?_ | refine k6 ?_ | refine k7 ?_ | refine k8 ?_ | refine And.intro ?_ ?_ | exact trivial | refine o3 ?_ | refine o4 ?_ | refine o5 ?_ | refine o6 ?_ | refine k5 ?_ | (intro h; first | exact Bool.noConfusion h | exact nz _ h | exact nl h | (simp at h; done) | (simp at h; first | (exfalso; omega) | skip) | skip) | (change retOk _ _ _ _; refine ret_pure rfl trivial ?_) | exact (rfl : allOne _ = true) | (refine (?_ : (0 : Int) ≤ _); omega) | (refine (?_ : _ ≠ _); omega) | (refine (?_ : srcLen _ = rowsLen _); rfl) | exact Nat.le_of_ble_eq_true rfl | exact (by kernel_rfl : drawOk _ _ = true) | refine eqv_len_map ?_ | refine eqv_size ?_ | refine eqv_put (eqv_ck ?_) | refine eqv_zero ?_ | refine eqv_wrap (by omega) (by omega) ?_ | refine eqv_u64 (by omega) (by omega) ?_ | refine eqv_u8 (by omega) (by omega) ?_ | refine eqv_to _ (set_map rfl rfl) ?_ | refine ⟨_, _, (by first | rfl | assumption), at_map (by assumption), ?_⟩ | refine ⟨_, _, (by first | rfl | assumption), (by assumption), ?_⟩ | refine ⟨_, at_map (by assumption), (by decide), ?_⟩ | refine ⟨_, at_map (by assumption), ?_⟩ | (refine (?_ : _ ≤ 140737488355328); simp [rowsLen] <;> omega) | (refine (?_ : _ ≤ 9223372036854775807); simp [rowsLen] <;> omega) | (refine (?_ : _ = rowsLen _); simp [rowsLen] <;> omega) | refine eqv_to _ (app_row rfl) (eqv_to _ app_len ?_) | refine eqv_to _ (app_first rfl) (eqv_to 1 rfl ?_) | refine idx_sl (at_map (by assumption)) (by omega) ?_ | refine idx_ms _ (by first | rfl | assumption) (by first | assumption | omega) ?_ | fail)
  refine loop_for (fun i : Nat => [(1, .pv (encInts plan)), (2, .ptr 0 4 0 0), (5, .ms 1 1 0 m.rules.toNat), (9, vint .i64 i)])
    (fun i => [mbox m, some ⟨3, 1, false, .p ((runC m (gr (chgT m plan) plan.length ++ prsT m plan i)).map eiI)⟩]) (fun i => i ≤ m.pairs.length) (fun i => m.pairs.length - i) 0 (Nat.zero_le _) ?_ ?_
  · have e : prsT m plan 0 = [] := rfl
    rw [e, List.append_nil]
    exact back [0, 1] rfl rfl (by repeat' (first | exact trivial | exact rfl | exact ren_get rfl | refine kept_ob rfl ?_ | exact ⟨_, rfl, ALe.refl⟩ | refine And.intro ?_ ?_)) (by repeat' (first | exact trivial | exact rfl | exact ren_get rfl | refine kept_ob rfl ?_ | exact ⟨_, rfl, ALe.refl⟩ | refine And.intro ?_ ?_))
  intro i hi
  have hpn := hz.2.2.1
  rcases Nat.lt_or_ge i m.pairs.length with hlt | hge
  · obtain ⟨p, hpi⟩ := getE hlt
    have hpp := (g.2.1 i hlt p hpi).1
    obtain ⟨q1, q2, q3, ⟨la, lb, q4, q5, q6⟩, q7⟩ := hpp
    have hf := (List.getElem?_eq_some_iff.1 q4).1
    have hs := (List.getElem?_eq_some_iff.1 q5).1
    have hfs : ∀ {n : Int}, n = p.first → n = (p.first.toNat : Int) := fun e => by omega
    have hss : ∀ {n : Int}, n = p.second → n = (p.second.toNat : Int) := fun e => by omega
    obtain ⟨oa, hoa⟩ := getE (show p.first.toNat < plan.length by omega)
    obtain ⟨ob, hob⟩ := getE (show p.second.toNat < plan.length by omega)
    have ga := hp.2 _ (List.getElem?_eq_some_iff.1 hoa).1 oa hoa
    have gb := hp.2 _ (List.getElem?_eq_some_iff.1 hob).1 ob hob
    by_cases hab : 0 ≤ oa ∧ 0 ≤ ob
    · have ha2 := ga.resolve_left (by omega)
      have hb2 := gb.resolve_left (by omega)
      obtain ⟨-, -, l1, e1, ha3⟩ := ha2
      obtain ⟨-, -, l2, e2, hb3⟩ := hb2
      rw [Int.toNat_natCast, q4] at e1; cases e1
      rw [Int.toNat_natCast, q5] at e2; cases e2
      obtain ⟨a, rfl⟩ := Int.eq_ofNat_of_zero_le hab.1
      obtain ⟨b, rfl⟩ := Int.eq_ofNat_of_zero_le hab.2
      have hla := hz.2.1 _ (List.mem_of_getElem? q4)
      have hlb := hz.2.1 _ (List.mem_of_getElem? q5)
      have hbd : a * lb.length + b < p.table.length := by
        rw [q6]
        have : (a + 1) * lb.length ≤ la.length * lb.length := Nat.mul_le_mul (by omega) (Nat.le_refl _)
        rw [Nat.succ_mul] at this
        omega
      obtain ⟨w, hw⟩ := getE hbd
      have ht := pairT_some (m := m) hoa hob hab.1 hab.2
      have htk := pairT_ok (g.2.1 i hlt p hpi).1 ht
      rw [entV_at q5 hw] at ht htk
      have hen := c_entry19 m p a b lb w (by omega) q5 (by omega) (by omega) (by omega) hw
      obtain ⟨v, hv, hvb⟩ := run_get (all_app (gr_ok g (plan := plan) (n := plan.length)) (prsT_ok g (plan := plan) (n := i))) q1
      have had := c_add19 v w hvb htk.2
      have hnx := run_next (c := w) hv
      have hv2 := at_map (f := eiI) hv
      have hr1 := q1.1
      have hr2 := q1.2
      repeat' (first | (refine idx_sl (k := i) (at_map hpi) (by omega) ?_) | (refine idx_sl (k := p.first.toNat) (at_map hoa) (by omega) ?_) | (refine idx_sl (k := p.second.toNat) (at_map hob) (by omega) ?_) | (refine ⟨_, at_map (f := eiI) hoa, ?_⟩) | (refine ⟨_, at_map (f := eiI) hob, ?_⟩) | (refine idx_ms p.first.toNat (hfs rfl) (by omega) ?_) | (refine idx_ms p.second.toNat (hss rfl) (by omega) ?_) | (refine idx_ms p.rule.toNat (by omega) (by omega) ?_) | (refine ⟨_, hv2, ?_⟩) | (refine eqv_to _ (set_map (f := eiI) (y := addC v w) rfl rfl) ?_) | refine o1 ?_ | refine o2 ?_ | refine k1 ?_ | refine k2 ?_ | refine k3 ?_ | refine k4 ?_ | refine k6 ?_ | refine k7 ?_ | refine k8 ?_ | refine And.intro ?_ ?_ | exact trivial | refine o3 ?_ | refine o4 ?_ | refine o5 ?_ | refine o6 ?_ | refine k5 ?_ | (intro h; first | exact Bool.noConfusion h | exact nz _ h | exact nl h | (simp at h; done) | (simp at h; first | (exfalso; omega) | skip) | skip) | (change retOk _ _ _ _; refine ret_pure rfl trivial ?_) | exact (rfl : allOne _ = true) | (refine (?_ : (0 : Int) ≤ _); omega) | (refine (?_ : _ ≠ _); omega) | (refine (?_ : srcLen _ = rowsLen _); rfl) | exact Nat.le_of_ble_eq_true rfl | exact (by kernel_rfl : drawOk _ _ = true) | refine eqv_len_map ?_ | refine eqv_size ?_ | refine eqv_put (eqv_ck ?_) | refine eqv_zero ?_ | refine eqv_wrap (by omega) (by omega) ?_ | refine eqv_u64 (by omega) (by omega) ?_ | refine eqv_u8 (by omega) (by omega) ?_ | refine eqv_to _ (set_map rfl rfl) ?_ | refine ⟨_, _, (by first | rfl | assumption), at_map (by assumption), ?_⟩ | refine ⟨_, _, (by first | rfl | assumption), (by assumption), ?_⟩ | refine ⟨_, at_map (by assumption), (by decide), ?_⟩ | refine ⟨_, at_map (by assumption), ?_⟩ | (refine (?_ : _ ≤ 140737488355328); simp [rowsLen] <;> omega) | (refine (?_ : _ ≤ 9223372036854775807); simp [rowsLen] <;> omega) | (refine (?_ : _ = rowsLen _); simp [rowsLen] <;> omega) | refine eqv_to _ (app_row rfl) (eqv_to _ app_len ?_) | refine eqv_to _ (app_first rfl) (eqv_to 1 rfl ?_) | refine idx_sl (at_map (by assumption)) (by omega) ?_ | refine idx_ms _ (by first | rfl | assumption) (by first | assumption | omega) ?_ | (change vcFunD _ _ _ _ _; refine callD_eq rfl (by repeat' (first | trivial | refine And.intro ?_ ?_ | (show 0 + _ ≤ List.length _; simp))) ALeL.refl (hen) rfl ?_) | (change vcFunD _ _ _ _ _; refine callD_eq rfl (by repeat' (first | trivial | refine And.intro ?_ ?_ | (show 0 + _ ≤ List.length _; simp))) ALeL.refl (had) rfl ?_) | fail)
      refine ⟨i + 1, hlt, by omega, ?_⟩
      unfold prsT
      rw [upto_some hpi ht, ← List.append_assoc]
      unfold prsT at hnx
      rw [← hnx]
      exact back [0, 1] rfl rfl (by repeat' (first | exact trivial | exact rfl | exact ren_get rfl | refine kept_ob rfl ?_ | exact ⟨_, rfl, ALe.refl⟩ | refine And.intro ?_ ?_)) (by repeat' (first | exact trivial | exact rfl | exact ren_get rfl | refine kept_ob rfl ?_ | exact ⟨_, rfl, ALe.refl⟩ | refine And.intro ?_ ?_))
    · have ht := pairT_none (m := m) hoa hob (by omega)
      repeat' (first | (refine idx_sl (k := i) (at_map hpi) (by omega) ?_) | (refine idx_sl (k := p.first.toNat) (at_map hoa) (by omega) ?_) | (refine idx_sl (k := p.second.toNat) (at_map hob) (by omega) ?_) | (refine ⟨_, at_map (f := eiI) hoa, ?_⟩) | (refine ⟨_, at_map (f := eiI) hob, ?_⟩) | (refine idx_ms p.first.toNat (hfs rfl) (by omega) ?_) | (refine idx_ms p.second.toNat (hss rfl) (by omega) ?_) | refine o1 ?_ | refine o2 ?_ | refine k1 ?_ | refine k2 ?_ | refine k3 ?_ | refine k4 ?_ | refine k6 ?_ | refine k7 ?_ | refine k8 ?_ | refine And.intro ?_ ?_ | exact trivial | refine o3 ?_ | refine o4 ?_ | refine o5 ?_ | refine o6 ?_ | refine k5 ?_ | (intro h; first | exact Bool.noConfusion h | exact nz _ h | exact nl h | (simp at h; done) | (simp at h; first | (exfalso; omega) | skip) | skip) | (change retOk _ _ _ _; refine ret_pure rfl trivial ?_) | exact (rfl : allOne _ = true) | (refine (?_ : (0 : Int) ≤ _); omega) | (refine (?_ : _ ≠ _); omega) | (refine (?_ : srcLen _ = rowsLen _); rfl) | exact Nat.le_of_ble_eq_true rfl | exact (by kernel_rfl : drawOk _ _ = true) | refine eqv_len_map ?_ | refine eqv_size ?_ | refine eqv_put (eqv_ck ?_) | refine eqv_zero ?_ | refine eqv_wrap (by omega) (by omega) ?_ | refine eqv_u64 (by omega) (by omega) ?_ | refine eqv_u8 (by omega) (by omega) ?_ | refine eqv_to _ (set_map rfl rfl) ?_ | refine ⟨_, _, (by first | rfl | assumption), at_map (by assumption), ?_⟩ | refine ⟨_, _, (by first | rfl | assumption), (by assumption), ?_⟩ | refine ⟨_, at_map (by assumption), (by decide), ?_⟩ | refine ⟨_, at_map (by assumption), ?_⟩ | (refine (?_ : _ ≤ 140737488355328); simp [rowsLen] <;> omega) | (refine (?_ : _ ≤ 9223372036854775807); simp [rowsLen] <;> omega) | (refine (?_ : _ = rowsLen _); simp [rowsLen] <;> omega) | refine eqv_to _ (app_row rfl) (eqv_to _ app_len ?_) | refine eqv_to _ (app_first rfl) (eqv_to 1 rfl ?_) | refine idx_sl (at_map (by assumption)) (by omega) ?_ | refine idx_ms _ (by first | rfl | assumption) (by first | assumption | omega) ?_ | fail)
      all_goals first
        | (exfalso; omega)
        | skip
      all_goals
        refine ⟨i + 1, hlt, by omega, ?_⟩
        unfold prsT
        rw [upto_none hpi ht]
        exact back [0, 1] rfl rfl (by repeat' (first | exact trivial | exact rfl | exact ren_get rfl | refine kept_ob rfl ?_ | exact ⟨_, rfl, ALe.refl⟩ | refine And.intro ?_ ?_)) (by repeat' (first | exact trivial | exact rfl | exact ren_get rfl | refine kept_ob rfl ?_ | exact ⟨_, rfl, ALe.refl⟩ | refine And.intro ?_ ?_))
  obtain rfl : i = m.pairs.length := by omega
  repeat' (first | refine o1 ?_ | refine o2 ?_ | refine k1 ?_ | refine k2 ?_ | refine k3 ?_ | refine k4 ?_ | refine k6 ?_ | refine k7 ?_ | refine k8 ?_ | refine And.intro ?_ ?_ | exact trivial | refine o3 ?_ | refine o4 ?_ | refine o5 ?_ | refine o6 ?_ | refine k5 ?_ | (intro h; first | exact Bool.noConfusion h | exact nz _ h | exact nl h | (simp at h; done) | (simp at h; first | (exfalso; omega) | skip) | skip) | (change retOk _ _ _ _; refine ret_pure rfl trivial ?_) | exact (rfl : allOne _ = true) | (refine (?_ : (0 : Int) ≤ _); omega) | (refine (?_ : _ ≠ _); omega) | (refine (?_ : srcLen _ = rowsLen _); rfl) | exact Nat.le_of_ble_eq_true rfl | exact (by kernel_rfl : drawOk _ _ = true) | refine eqv_len_map ?_ | refine eqv_size ?_ | refine eqv_put (eqv_ck ?_) | refine eqv_zero ?_ | refine eqv_wrap (by omega) (by omega) ?_ | refine eqv_u64 (by omega) (by omega) ?_ | refine eqv_u8 (by omega) (by omega) ?_ | refine eqv_to _ (set_map rfl rfl) ?_ | refine ⟨_, _, (by first | rfl | assumption), at_map (by assumption), ?_⟩ | refine ⟨_, _, (by first | rfl | assumption), (by assumption), ?_⟩ | refine ⟨_, at_map (by assumption), (by decide), ?_⟩ | refine ⟨_, at_map (by assumption), ?_⟩ | (refine (?_ : _ ≤ 140737488355328); simp [rowsLen] <;> omega) | (refine (?_ : _ ≤ 9223372036854775807); simp [rowsLen] <;> omega) | (refine (?_ : _ = rowsLen _); simp [rowsLen] <;> omega) | refine eqv_to _ (app_row rfl) (eqv_to _ app_len ?_) | refine eqv_to _ (app_first rfl) (eqv_to 1 rfl ?_) | refine idx_sl (at_map (by assumption)) (by omega) ?_ | refine idx_ms _ (by first | rfl | assumption) (by first | assumption | omega) ?_ | fail)
  have hall2 := all_app (gr_ok g (plan := plan) (n := plan.length)) (prsT_ok g (plan := plan) (n := m.pairs.length))
  have hrv : rulesV m plan = runC m (gr (chgT m plan) plan.length ++ prsT m plan m.pairs.length ++ cntsT m plan m.counts.length) := rfl
  rw [hrv]
  generalize gr (chgT m plan) plan.length ++ prsT m plan m.pairs.length = T2 at *
  refine loop_for (fun i : Nat => [(1, .pv (encInts plan)), (2, .ptr 0 4 0 0), (5, .ms 1 1 0 m.rules.toNat), (11, vint .i64 i)])
    (fun i => [mbox m, some ⟨3, 1, false, .p ((runC m (T2 ++ cntsT m plan i)).map eiI)⟩]) (fun i => i ≤ m.counts.length) (fun i => m.counts.length - i) 0 (Nat.zero_le _) ?_ ?_
  · have e : cntsT m plan 0 = [] := rfl
    rw [e, List.append_nil]
    exact back [0, 1] rfl rfl (by repeat' (first | exact trivial | exact rfl | exact ren_get rfl | refine kept_ob rfl ?_ | exact ⟨_, rfl, ALe.refl⟩ | refine And.intro ?_ ?_)) (by repeat' (first | exact trivial | exact rfl | exact ren_get rfl | refine kept_ob rfl ?_ | exact ⟨_, rfl, ALe.refl⟩ | refine And.intro ?_ ?_))
  intro i hi
  have hctn := hz.2.2.2.1
  rcases Nat.lt_or_ge i m.counts.length with hlt | hge
  · obtain ⟨c, hci⟩ := getE hlt
    have hcm := List.mem_of_getElem? hci
    have hcc := g.2.2 c hcm
    have hcn := hc c hcm
    have hwt : ∀ x ∈ c.loads, 0 ≤ x.weight ∧ x.weight ≤ 1000 := fun x hx => by
      obtain ⟨k, hk⟩ := List.getElem?_of_mem hx
      have := hcc.2.2.2.2 k (List.getElem?_eq_some_iff.1 hk).1 x hk
      exact ⟨by have := this.2.1; omega, this.2.2.1⟩
    repeat' (first | (refine idx_sl (k := i) (at_map hci) (by omega) ?_) | refine o1 ?_ | refine o2 ?_ | refine k1 ?_ | refine k2 ?_ | refine k3 ?_ | refine k4 ?_ | refine k6 ?_ | refine k7 ?_ | refine k8 ?_ | refine And.intro ?_ ?_ | exact trivial | refine o3 ?_ | refine o4 ?_ | refine o5 ?_ | refine o6 ?_ | refine k5 ?_ | (intro h; first | exact Bool.noConfusion h | exact nz _ h | exact nl h | (simp at h; done) | (simp at h; first | (exfalso; omega) | skip) | skip) | (change retOk _ _ _ _; refine ret_pure rfl trivial ?_) | exact (rfl : allOne _ = true) | (refine (?_ : (0 : Int) ≤ _); omega) | (refine (?_ : _ ≠ _); omega) | (refine (?_ : srcLen _ = rowsLen _); rfl) | exact Nat.le_of_ble_eq_true rfl | exact (by kernel_rfl : drawOk _ _ = true) | refine eqv_len_map ?_ | refine eqv_size ?_ | refine eqv_put (eqv_ck ?_) | refine eqv_zero ?_ | refine eqv_wrap (by omega) (by omega) ?_ | refine eqv_u64 (by omega) (by omega) ?_ | refine eqv_u8 (by omega) (by omega) ?_ | refine eqv_to _ (set_map rfl rfl) ?_ | refine ⟨_, _, (by first | rfl | assumption), at_map (by assumption), ?_⟩ | refine ⟨_, _, (by first | rfl | assumption), (by assumption), ?_⟩ | refine ⟨_, at_map (by assumption), (by decide), ?_⟩ | refine ⟨_, at_map (by assumption), ?_⟩ | (refine (?_ : _ ≤ 140737488355328); simp [rowsLen] <;> omega) | (refine (?_ : _ ≤ 9223372036854775807); simp [rowsLen] <;> omega) | (refine (?_ : _ = rowsLen _); simp [rowsLen] <;> omega) | refine eqv_to _ (app_row rfl) (eqv_to _ app_len ?_) | refine eqv_to _ (app_first rfl) (eqv_to 1 rfl ?_) | refine idx_sl (at_map (by assumption)) (by omega) ?_ | refine idx_ms _ (by first | rfl | assumption) (by first | assumption | omega) ?_ | fail)
    refine loop_for (fun k : Nat => [(1, .pv (encInts plan)), (2, .ptr 0 4 0 0), (5, .ms 1 1 0 m.rules.toNat), (11, vint .i64 i), (12, .ptr 2 4 0 0), (13, vint .i64 (loadT plan c.loads k)), (14, vint .i64 k)])
      (fun k => [mbox m, some ⟨3, 1, false, .p ((runC m (T2 ++ cntsT m plan i)).map eiI)⟩, some ⟨120, 4, false, .box (pvs c.row)⟩]) (fun k => k ≤ c.loads.length) (fun k => c.loads.length - k) 0 (Nat.zero_le _) ?_ ?_
    · exact back [0, 1, 2] rfl rfl (by repeat' (first | exact trivial | exact rfl | exact ren_get rfl | refine kept_ob rfl ?_ | exact ⟨_, rfl, ALe.refl⟩ | refine And.intro ?_ ?_)) (by repeat' (first | exact trivial | exact rfl | exact ren_get rfl | refine kept_ob rfl ?_ | exact ⟨_, rfl, ALe.refl⟩ | refine And.intro ?_ ?_))
    intro k hk
    have hlb := loadT_bnd (plan := plan) hwt hk
    rcases Nat.lt_or_ge k c.loads.length with hlt2 | hge2
    · obtain ⟨x, hxk⟩ := getE hlt2
      have hx := hcc.2.2.2.2 k hlt2 x hxk
      obtain ⟨⟨x1, -, lx, x2, -⟩, x3, x4, -⟩ := hx
      have hxl := (List.getElem?_eq_some_iff.1 x2).1
      obtain ⟨o, ho⟩ := getE (show x.cls.toNat < plan.length by omega)
      have hit := hit_iff ho
      have hsn := loadT_snoc (plan := plan) hxk
      repeat' (first | (refine idx_sl (k := k) (at_map hxk) (by omega) ?_) | (refine idx_sl (k := x.cls.toNat) (at_map ho) (by omega) ?_) | (refine ⟨_, at_map (f := eiI) ho, ?_⟩) | (refine idx_ms x.cls.toNat (by omega) (by omega) ?_) | refine o1 ?_ | refine o2 ?_ | refine k1 ?_ | refine k2 ?_ | refine k3 ?_ | refine k4 ?_ | refine k6 ?_ | refine k7 ?_ | refine k8 ?_ | refine And.intro ?_ ?_ | exact trivial | refine o3 ?_ | refine o4 ?_ | refine o5 ?_ | refine o6 ?_ | refine k5 ?_ | (intro h; first | exact Bool.noConfusion h | exact nz _ h | exact nl h | (simp at h; done) | (simp at h; first | (exfalso; omega) | skip) | skip) | (change retOk _ _ _ _; refine ret_pure rfl trivial ?_) | exact (rfl : allOne _ = true) | (refine (?_ : (0 : Int) ≤ _); omega) | (refine (?_ : _ ≠ _); omega) | (refine (?_ : srcLen _ = rowsLen _); rfl) | exact Nat.le_of_ble_eq_true rfl | exact (by kernel_rfl : drawOk _ _ = true) | refine eqv_len_map ?_ | refine eqv_size ?_ | refine eqv_put (eqv_ck ?_) | refine eqv_zero ?_ | refine eqv_wrap (by omega) (by omega) ?_ | refine eqv_u64 (by omega) (by omega) ?_ | refine eqv_u8 (by omega) (by omega) ?_ | refine eqv_to _ (set_map rfl rfl) ?_ | refine ⟨_, _, (by first | rfl | assumption), at_map (by assumption), ?_⟩ | refine ⟨_, _, (by first | rfl | assumption), (by assumption), ?_⟩ | refine ⟨_, at_map (by assumption), (by decide), ?_⟩ | refine ⟨_, at_map (by assumption), ?_⟩ | (refine (?_ : _ ≤ 140737488355328); simp [rowsLen] <;> omega) | (refine (?_ : _ ≤ 9223372036854775807); simp [rowsLen] <;> omega) | (refine (?_ : _ = rowsLen _); simp [rowsLen] <;> omega) | refine eqv_to _ (app_row rfl) (eqv_to _ app_len ?_) | refine eqv_to _ (app_first rfl) (eqv_to 1 rfl ?_) | refine idx_sl (at_map (by assumption)) (by omega) ?_ | refine idx_ms _ (by first | rfl | assumption) (by first | assumption | omega) ?_ | fail)
      all_goals refine ⟨k + 1, hlt2, by omega, ?_⟩
      · rw [pB_t (hit.2 (by omega))] at hsn
        rw [hsn]
        exact back [0, 1, 2] rfl rfl (by repeat' (first | exact trivial | exact rfl | exact ren_get rfl | refine kept_ob rfl ?_ | exact ⟨_, rfl, ALe.refl⟩ | refine And.intro ?_ ?_)) (by repeat' (first | exact trivial | exact rfl | exact ren_get rfl | refine kept_ob rfl ?_ | exact ⟨_, rfl, ALe.refl⟩ | refine And.intro ?_ ?_))
      · rw [pB_f (fun e => absurd (hit.1 e) (by omega))] at hsn
        rw [hsn, if_neg (by decide), Int.add_zero]
        exact back [0, 1, 2] rfl rfl (by repeat' (first | exact trivial | exact rfl | exact ren_get rfl | refine kept_ob rfl ?_ | exact ⟨_, rfl, ALe.refl⟩ | refine And.intro ?_ ?_)) (by repeat' (first | exact trivial | exact rfl | exact ren_get rfl | refine kept_ob rfl ?_ | exact ⟨_, rfl, ALe.refl⟩ | refine And.intro ?_ ?_))
    obtain rfl : k = c.loads.length := by omega
    obtain ⟨v, hv, hvb⟩ := run_get (all_app hall2 (cntsT_ok g (plan := plan) (n := i))) hcc.1
    have hpb := priceP_bnd hcc.2.2.2.1
    have hm1 := hcc.2.1
    have hm2 := hcc.2.2.1
    have htm := c_times19 (loadT plan c.loads c.loads.length - c.most) c.penalty (by omega) hpb
    have htb := timesC_bnd (n := loadT plan c.loads c.loads.length - c.most) hpb.1
    have had := c_add19 v _ hvb htb
    have hnx := run_next (c := timesC (loadT plan c.loads c.loads.length - c.most) c.penalty) hv
    have hv2 := at_map (f := eiI) hv
    have hr1 := hcc.1.1
    have hr2 := hcc.1.2
    have hct : cntT plan c = (c.rule, timesC (loadT plan c.loads c.loads.length - c.most) c.penalty) := rfl
    have hcs := cntsT_snoc (plan := plan) hci
    rw [hct] at hcs
    generalize timesC (loadT plan c.loads c.loads.length - c.most) c.penalty = w at *
    repeat' (first | (refine idx_ms c.rule.toNat (by omega) (by omega) ?_) | (refine ⟨_, hv2, ?_⟩) | (refine eqv_to _ (set_map (f := eiI) (y := addC v w) rfl rfl) ?_) | refine o1 ?_ | refine o2 ?_ | refine k1 ?_ | refine k2 ?_ | refine k3 ?_ | refine k4 ?_ | refine k6 ?_ | refine k7 ?_ | refine k8 ?_ | refine And.intro ?_ ?_ | exact trivial | refine o3 ?_ | refine o4 ?_ | refine o5 ?_ | refine o6 ?_ | refine k5 ?_ | (intro h; first | exact Bool.noConfusion h | exact nz _ h | exact nl h | (simp at h; done) | (simp at h; first | (exfalso; omega) | skip) | skip) | (change retOk _ _ _ _; refine ret_pure rfl trivial ?_) | exact (rfl : allOne _ = true) | (refine (?_ : (0 : Int) ≤ _); omega) | (refine (?_ : _ ≠ _); omega) | (refine (?_ : srcLen _ = rowsLen _); rfl) | exact Nat.le_of_ble_eq_true rfl | exact (by kernel_rfl : drawOk _ _ = true) | refine eqv_len_map ?_ | refine eqv_size ?_ | refine eqv_put (eqv_ck ?_) | refine eqv_zero ?_ | refine eqv_wrap (by omega) (by omega) ?_ | refine eqv_u64 (by omega) (by omega) ?_ | refine eqv_u8 (by omega) (by omega) ?_ | refine eqv_to _ (set_map rfl rfl) ?_ | refine ⟨_, _, (by first | rfl | assumption), at_map (by assumption), ?_⟩ | refine ⟨_, _, (by first | rfl | assumption), (by assumption), ?_⟩ | refine ⟨_, at_map (by assumption), (by decide), ?_⟩ | refine ⟨_, at_map (by assumption), ?_⟩ | (refine (?_ : _ ≤ 140737488355328); simp [rowsLen] <;> omega) | (refine (?_ : _ ≤ 9223372036854775807); simp [rowsLen] <;> omega) | (refine (?_ : _ = rowsLen _); simp [rowsLen] <;> omega) | refine eqv_to _ (app_row rfl) (eqv_to _ app_len ?_) | refine eqv_to _ (app_first rfl) (eqv_to 1 rfl ?_) | refine idx_sl (at_map (by assumption)) (by omega) ?_ | refine idx_ms _ (by first | rfl | assumption) (by first | assumption | omega) ?_ | (change vcFunD _ _ _ _ _; refine callD_eq rfl (by repeat' (first | trivial | refine And.intro ?_ ?_ | (show 0 + _ ≤ List.length _; simp))) ALeL.refl (htm) rfl ?_) | (change vcFunD _ _ _ _ _; refine callD_eq rfl (by repeat' (first | trivial | refine And.intro ?_ ?_ | (show 0 + _ ≤ List.length _; simp))) ALeL.refl (had) rfl ?_) | fail)
    refine ⟨i + 1, hlt, by omega, ?_⟩
    rw [hcs, ← List.append_assoc, ← hnx]
    exact back [0, 1] rfl rfl (by repeat' (first | exact trivial | exact rfl | exact ren_get rfl | refine kept_ob rfl ?_ | exact ⟨_, rfl, ALe.refl⟩ | refine And.intro ?_ ?_)) (by repeat' (first | exact trivial | exact rfl | exact ren_get rfl | refine kept_ob rfl ?_ | exact ⟨_, rfl, ALe.refl⟩ | refine And.intro ?_ ?_))
  obtain rfl : i = m.counts.length := by omega
  have hrl : (runC m (T2 ++ cntsT m plan m.counts.length)).length = m.rules.toNat := run_len
  generalize runC m (T2 ++ cntsT m plan m.counts.length) = O at *
  rw [← hrl]
  repeat' (first | refine o1 ?_ | refine o2 ?_ | refine k1 ?_ | refine k2 ?_ | refine k3 ?_ | refine k4 ?_ | refine k6 ?_ | refine k7 ?_ | refine k8 ?_ | refine And.intro ?_ ?_ | exact trivial | refine o3 ?_ | refine o4 ?_ | refine o5 ?_ | refine o6 ?_ | refine k5 ?_ | (intro h; first | exact Bool.noConfusion h | exact nz _ h | exact nl h | (simp at h; done) | (simp at h; first | (exfalso; omega) | skip) | skip) | (change retOk _ _ _ _; refine ret_pure rfl trivial ?_) | exact (rfl : allOne _ = true) | (refine (?_ : (0 : Int) ≤ _); omega) | (refine (?_ : _ ≠ _); omega) | (refine (?_ : srcLen _ = rowsLen _); rfl) | exact Nat.le_of_ble_eq_true rfl | exact (by kernel_rfl : drawOk _ _ = true) | refine eqv_len_map ?_ | refine eqv_size ?_ | refine eqv_put (eqv_ck ?_) | refine eqv_zero ?_ | refine eqv_wrap (by omega) (by omega) ?_ | refine eqv_u64 (by omega) (by omega) ?_ | refine eqv_u8 (by omega) (by omega) ?_ | refine eqv_to _ (set_map rfl rfl) ?_ | refine ⟨_, _, (by first | rfl | assumption), at_map (by assumption), ?_⟩ | refine ⟨_, _, (by first | rfl | assumption), (by assumption), ?_⟩ | refine ⟨_, at_map (by assumption), (by decide), ?_⟩ | refine ⟨_, at_map (by assumption), ?_⟩ | (refine (?_ : _ ≤ 140737488355328); simp [rowsLen] <;> omega) | (refine (?_ : _ ≤ 9223372036854775807); simp [rowsLen] <;> omega) | (refine (?_ : _ = rowsLen _); simp [rowsLen] <;> omega) | refine eqv_to _ (app_row rfl) (eqv_to _ app_len ?_) | refine eqv_to _ (app_first rfl) (eqv_to 1 rfl ?_) | refine idx_sl (at_map (by assumption)) (by omega) ?_ | refine idx_ms _ (by first | rfl | assumption) (by first | assumption | omega) ?_ | fail)
  change retOk _ _ _ _
  refine ret_pure rfl (by repeat' (first | trivial | refine And.intro ?_ ?_ | (show 0 + _ ≤ List.length _; simp))) ?_
  refine congrArg AV.pv (congrArg (PV.sl 1) ?_)
  rw [List.drop_zero, List.take_of_length_le (by rw [List.length_map]; exact Nat.le_refl _)]
  rfl
end Go.Proofs.YtpnghlibmpainaaGreat.Cw

/-
  Contracts: what a plan costs, by the reference.
-/
namespace Go.Proofs.YtpnghlibmpainaaGreat.Cw
open Go Go.Cw Go.Proofs
set_option linter.unusedVariables false
set_option maxRecDepth 100000
set_option maxHeartbeats 4000000

theorem total_snoc {l : List Int} {i : Nat} {n : Int} (h : l[i]? = some n) : totalV l (i + 1) = addC (totalV l i) n := by
  unfold totalV; rw [take_snoc h, List.foldl_append]; rfl
theorem total_bnd {l : List Int} (h : BndC l) : ∀ {i : Nat}, i ≤ l.length → 0 ≤ totalV l i ∧ totalV l i ≤ 1099511627776
  | 0, _ => by unfold totalV; simp
  | i + 1, hi => by
    obtain ⟨n, hn⟩ := getE (show i < l.length by omega)
    rw [total_snoc hn]
    exact addC_bnd (total_bnd h (i := i) (by omega)).1 (h n (List.mem_of_getElem? hn)).1
theorem terms_ok {m : Model} (g : goodP m) {plan : List Int} : ∀ t ∈ termsV m plan, TermOk m t := all_app (all_app (gr_ok g) (prsT_ok g)) (cntsT_ok g)
theorem rules_bnd {m : Model} (g : goodP m) {plan : List Int} : BndC (rulesV m plan) := run_bnd fun t ht => (terms_ok g t ht).2.1
noncomputable def costV (m : Model) (plan : List Int) : Int := totalV (rulesV m plan) (rulesV m plan).length
noncomputable def costA (m : Model) (plan : List Int) : AV := .tup [vint .i64 (costV m plan), .pv (encInts (rulesV m plan)), vint .i64 0]

theorem c_cost19 (m : Model) (plan : List Int) (h0 : modelE m = 0) (hl : Laid m) (hp : plannedP m plan) (hc : ∀ c ∈ m.counts, c.loads.length ≤ 100) : PCall Tryz.prog 34 [ag m.cells, .pv (encInts plan)] (fun r => r = costA m plan) := by
  have hz := model_sized h0
  have h1 := c_rvalid m hl
  rw [h0] at h1
  have h2 := c_rpartial m plan hz
  rw [pB_t hp] at h2
  have hrb := rules_bnd (model_good h0) (plan := plan)
  have hrl : (rulesV m plan).length ≤ 100 := by
    have e : (rulesV m plan).length = m.rules.toNat := run_len
    have := hz.2.2.2.2
    omega
  unfold costA costV
  refine acall_of tok mixed 37 rfl (fn := Tryz.f34) (c := Tryz.f34.body.getD .skip) (by kernel_rfl) (by kernel_rfl) (by kernel_rfl) rfl 0 rfl ?_
  repeat' (first | ((change vcFun _ _ [ag m.cells, .ms 0 1 0 plan.length] _ _; refine call_planS rfl h2 rfl ?_)) | ((change vcFun _ _ _ _ _; refine call_frz rfl (by repeat' (first | trivial | refine And.intro ?_ ?_ | (show 0 + _ ≤ List.length _; simp))) ALeL.refl (c_rules19 m plan h0 hl hp hc) ?_; rintro _ rfl)) | ((change vcFun _ _ _ _ _; refine call_one (i := 0) rfl (fun _ _ => rfl) [ag m.cells, .ms 0 1 0 plan.length] rfl (c_rules19o m plan h0 hl hp hc) ?_; rintro _ _ ⟨rfl, rfl⟩; refine ⟨_, rfl, fun _ _ => rfl, fun _ _ => rfl, ?_⟩)) | refine o1 ?_ | refine o2 ?_ | refine k1 ?_ | refine k2 ?_ | refine k3 ?_ | refine k4 ?_ | refine k6 ?_ | refine k7 ?_ | refine k8 ?_ | refine And.intro ?_ ?_ | exact trivial | refine o3 ?_ | refine o4 ?_ | refine o5 ?_ | refine o6 ?_ | refine k5 ?_ | (intro h; first | exact Bool.noConfusion h | exact nz _ h | exact nl h | (simp at h; done) | (simp at h; first | (exfalso; omega) | skip) | skip) | (change retOk _ _ _ _; refine ret_pure rfl trivial ?_) | exact (rfl : allOne _ = true) | (refine (?_ : (0 : Int) ≤ _); omega) | (refine (?_ : _ ≠ _); omega) | (refine (?_ : srcLen _ = rowsLen _); rfl) | exact Nat.le_of_ble_eq_true rfl | exact (by kernel_rfl : drawOk _ _ = true) | refine eqv_len_map ?_ | refine eqv_size ?_ | refine eqv_put (eqv_ck ?_) | refine eqv_zero ?_ | refine eqv_wrap (by omega) (by omega) ?_ | refine eqv_u64 (by omega) (by omega) ?_ | refine eqv_u8 (by omega) (by omega) ?_ | refine eqv_to _ (set_map rfl rfl) ?_ | refine ⟨_, _, (by first | rfl | assumption), at_map (by assumption), ?_⟩ | refine ⟨_, _, (by first | rfl | assumption), (by assumption), ?_⟩ | refine ⟨_, at_map (by assumption), (by decide), ?_⟩ | refine ⟨_, at_map (by assumption), ?_⟩ | (refine (?_ : _ ≤ 140737488355328); simp [rowsLen] <;> omega) | (refine (?_ : _ ≤ 9223372036854775807); simp [rowsLen] <;> omega) | (refine (?_ : _ = rowsLen _); simp [rowsLen] <;> omega) | refine eqv_to _ (app_row rfl) (eqv_to _ app_len ?_) | refine eqv_to _ (app_first rfl) (eqv_to 1 rfl ?_) | refine idx_sl (at_map (by assumption)) (by omega) ?_ | refine idx_ms _ (by first | rfl | assumption) (by first | assumption | omega) ?_ | (change vcFun _ _ _ _ _; refine call_eq rfl (by repeat' (first | trivial | refine And.intro ?_ ?_ | (show 0 + _ ≤ List.length _; simp))) ALeL.refl (h1) rfl ?_) | (change vcFun _ _ _ _ _; refine call_eq rfl (by repeat' (first | trivial | refine And.intro ?_ ?_ | (show 0 + _ ≤ List.length _; simp))) ALeL.refl (h2) rfl ?_) | fail)
  generalize rulesV m plan = L at *
  refine loop_for (fun i : Nat => [(8, .pv (encInts L)), (9, vint .i64 (totalV L i)), (10, vint .i64 i)]) (fun _ => []) (fun i => i ≤ L.length) (fun i => L.length - i) 0 (Nat.zero_le _) ?_ ?_
  · exact back [] rfl rfl (by repeat' (first | exact trivial | exact rfl | exact ren_get rfl | refine kept_ob rfl ?_ | exact ⟨_, rfl, ALe.refl⟩ | refine And.intro ?_ ?_)) (by repeat' (first | exact trivial | exact rfl | exact ren_get rfl | refine kept_ob rfl ?_ | exact ⟨_, rfl, ALe.refl⟩ | refine And.intro ?_ ?_))
  intro i hi
  have htb := total_bnd hrb hi
  rcases Nat.lt_or_ge i L.length with hlt | hge
  · obtain ⟨n, hn⟩ := getE hlt
    have hnb := hrb n (List.mem_of_getElem? hn)
    have had := c_add19 (totalV L i) n htb hnb
    rw [← total_snoc hn] at had
    repeat' (first | (refine idx_sl (k := i) (at_map hn) (by omega) ?_) | refine o1 ?_ | refine o2 ?_ | refine k1 ?_ | refine k2 ?_ | refine k3 ?_ | refine k4 ?_ | refine k6 ?_ | refine k7 ?_ | refine k8 ?_ | refine And.intro ?_ ?_ | exact trivial | refine o3 ?_ | refine o4 ?_ | refine o5 ?_ | refine o6 ?_ | refine k5 ?_ | (intro h; first | exact Bool.noConfusion h | exact nz _ h | exact nl h | (simp at h; done) | (simp at h; first | (exfalso; omega) | skip) | skip) | (change retOk _ _ _ _; refine ret_pure rfl trivial ?_) | exact (rfl : allOne _ = true) | (refine (?_ : (0 : Int) ≤ _); omega) | (refine (?_ : _ ≠ _); omega) | (refine (?_ : srcLen _ = rowsLen _); rfl) | exact Nat.le_of_ble_eq_true rfl | exact (by kernel_rfl : drawOk _ _ = true) | refine eqv_len_map ?_ | refine eqv_size ?_ | refine eqv_put (eqv_ck ?_) | refine eqv_zero ?_ | refine eqv_wrap (by omega) (by omega) ?_ | refine eqv_u64 (by omega) (by omega) ?_ | refine eqv_u8 (by omega) (by omega) ?_ | refine eqv_to _ (set_map rfl rfl) ?_ | refine ⟨_, _, (by first | rfl | assumption), at_map (by assumption), ?_⟩ | refine ⟨_, _, (by first | rfl | assumption), (by assumption), ?_⟩ | refine ⟨_, at_map (by assumption), (by decide), ?_⟩ | refine ⟨_, at_map (by assumption), ?_⟩ | (refine (?_ : _ ≤ 140737488355328); simp [rowsLen] <;> omega) | (refine (?_ : _ ≤ 9223372036854775807); simp [rowsLen] <;> omega) | (refine (?_ : _ = rowsLen _); simp [rowsLen] <;> omega) | refine eqv_to _ (app_row rfl) (eqv_to _ app_len ?_) | refine eqv_to _ (app_first rfl) (eqv_to 1 rfl ?_) | refine idx_sl (at_map (by assumption)) (by omega) ?_ | refine idx_ms _ (by first | rfl | assumption) (by first | assumption | omega) ?_ | (change vcFun _ _ _ _ _; refine call_eq rfl (by repeat' (first | trivial | refine And.intro ?_ ?_ | (show 0 + _ ≤ List.length _; simp))) ALeL.refl (had) rfl ?_) | fail)
    exact ⟨i + 1, hlt, by omega, back [] rfl rfl (by repeat' (first | exact trivial | exact rfl | exact ren_get rfl | refine kept_ob rfl ?_ | exact ⟨_, rfl, ALe.refl⟩ | refine And.intro ?_ ?_)) (by repeat' (first | exact trivial | exact rfl | exact ren_get rfl | refine kept_ob rfl ?_ | exact ⟨_, rfl, ALe.refl⟩ | refine And.intro ?_ ?_))⟩
  · obtain rfl : i = L.length := by omega
    repeat' (first | refine o1 ?_ | refine o2 ?_ | refine k1 ?_ | refine k2 ?_ | refine k3 ?_ | refine k4 ?_ | refine k6 ?_ | refine k7 ?_ | refine k8 ?_ | refine And.intro ?_ ?_ | exact trivial | refine o3 ?_ | refine o4 ?_ | refine o5 ?_ | refine o6 ?_ | refine k5 ?_ | (intro h; first | exact Bool.noConfusion h | exact nz _ h | exact nl h | (simp at h; done) | (simp at h; first | (exfalso; omega) | skip) | skip) | (change retOk _ _ _ _; refine ret_pure rfl trivial ?_) | exact (rfl : allOne _ = true) | (refine (?_ : (0 : Int) ≤ _); omega) | (refine (?_ : _ ≠ _); omega) | (refine (?_ : srcLen _ = rowsLen _); rfl) | exact Nat.le_of_ble_eq_true rfl | exact (by kernel_rfl : drawOk _ _ = true) | refine eqv_len_map ?_ | refine eqv_size ?_ | refine eqv_put (eqv_ck ?_) | refine eqv_zero ?_ | refine eqv_wrap (by omega) (by omega) ?_ | refine eqv_u64 (by omega) (by omega) ?_ | refine eqv_u8 (by omega) (by omega) ?_ | refine eqv_to _ (set_map rfl rfl) ?_ | refine ⟨_, _, (by first | rfl | assumption), at_map (by assumption), ?_⟩ | refine ⟨_, _, (by first | rfl | assumption), (by assumption), ?_⟩ | refine ⟨_, at_map (by assumption), (by decide), ?_⟩ | refine ⟨_, at_map (by assumption), ?_⟩ | (refine (?_ : _ ≤ 140737488355328); simp [rowsLen] <;> omega) | (refine (?_ : _ ≤ 9223372036854775807); simp [rowsLen] <;> omega) | (refine (?_ : _ = rowsLen _); simp [rowsLen] <;> omega) | refine eqv_to _ (app_row rfl) (eqv_to _ app_len ?_) | refine eqv_to _ (app_first rfl) (eqv_to 1 rfl ?_) | refine idx_sl (at_map (by assumption)) (by omega) ?_ | refine idx_ms _ (by first | rfl | assumption) (by first | assumption | omega) ?_ | fail)
    all_goals first
      | rfl
      | exact ret_obj [0] [some ⟨3, 1, false, .p (plan.map eiI)⟩] rfl rfl ⟨rfl, trivial⟩ (r' := .tup [vint .i64 (totalV L L.length), .pv (encInts L), vint .i64 0]) rfl ⟨rfl, rfl⟩
end Go.Proofs.YtpnghlibmpainaaGreat.Cw

/-
  Contracts: the least plan, by the reference: it is a plan that costs what is said.
-/
namespace Go.Proofs.YtpnghlibmpainaaGreat.Cw
open Go Go.Cw Go.Proofs
set_option linter.unusedVariables false
set_option maxRecDepth 100000
set_option maxHeartbeats 4000000

/-- What a search hands back. -/
def LeastR (m : Model) (q : PV) (T : Int) : Prop := T = 1099511627776 ∨ ∃ pl, PLe q (encInts pl) ∧ planP m pl ∧ costV m pl = T ∧ T < 1099511627776
def opl (p : List Int) : Option AObj := some ⟨3, 1, false, .p (p.map eiI)⟩
end Go.Proofs.YtpnghlibmpainaaGreat.Cw

/-
  Contracts: rooms that are open, and suit an exam.
-/
namespace Go.Proofs.YtpnghlibmpainaaGreat.Cw
open Go.Cw Go.Proofs
set_option linter.unusedVariables false
set_option maxRecDepth 100000
set_option maxHeartbeats 8000000

theorem vb {b c : Bool} (h : c = b) : AV.pv (.val (.bool b)) = vbool c := by rw [h]; rfl
theorem c_apart1 (x t : Time) : PCall Tryz.prog 166 [ag x.row, .pv (.ia t.row)] (fun r => r = vbool (pB (ovP x t))) := by
  refine acall_of tok mixed 7 rfl (fn := Tryz.f166) (c := Tryz.f166.body.getD .skip) (by kernel_rfl) (by kernel_rfl) (by kernel_rfl) rfl 0 rfl ?_
  repeat' (first | refine o1 ?_ | refine o2 ?_ | refine k1 ?_ | refine k2 ?_ | refine k7 ?_ | (change retOk _ _ _ _; refine ret_pure rfl trivial ?_) | (change vcFun _ _ _ _ _; refine call_eq rfl (by repeat' (first | trivial | refine And.intro ?_ ?_ | (show 0 + _ ≤ List.length _; simp))) ALeL.refl (c_overlap x t) rfl ?_) | fail)
  rfl
theorem apart_any {l : List Time} {t : Time} : (l.any fun x => pB (ovP x t)) = pB (¬ apartB l t) := pB_eq (by simp [apartB])
theorem c_apart (l : List Time) (t : Time) (hl : l.length ≤ 100000) : PCall Tryz.prog 135 [.pv (encTimes l), ag t.row] (fun r => r = vbool (pB (apartB l t))) := by
  refine acall_of tok mixed 9 rfl (fn := Tryz.f135) (c := Tryz.f135.body.getD .skip) (by kernel_rfl) (by kernel_rfl) (by kernel_rfl) rfl 0 rfl ?_
  repeat' (first | refine o1 ?_ | refine o2 ?_ | refine k1 ?_ | refine k2 ?_ | refine k7 ?_ | (change retOk _ _ _ _; refine ret_pure rfl trivial ?_) | (change vcFun _ _ _ _ _; refine call_eq rfl (by repeat' (first | trivial | refine And.intro ?_ ?_ | (show 0 + _ ≤ List.length _; simp))) ALeL.refl (c_any_time l 166 [.ia t.row] (fun x => pB (ovP x t)) hl (fun x _ => c_apart1 x t)) rfl ?_) | fail)
  exact congrArg vbool (by rw [apart_any]; by_cases h : apartB l t <;> simp [h])
theorem c_open (r : Room) (t : Time) (hr : r.closed.length ≤ 100000) : PCall Tryz.prog 90 [ag r.row, ag t.row] (fun a => a = vbool (pB (apartB r.closed t))) := by
  refine acall_of tok mixed 9 rfl (fn := Tryz.f90) (c := Tryz.f90.body.getD .skip) (by kernel_rfl) (by kernel_rfl) (by kernel_rfl) rfl 0 rfl ?_
  repeat' (first | refine o1 ?_ | refine o2 ?_ | refine k1 ?_ | refine k2 ?_ | refine k7 ?_ | (change retOk _ _ _ _; refine ret_pure rfl trivial ?_) | (change vcFun _ _ _ _ _; refine call_eq rfl (by repeat' (first | trivial | refine And.intro ?_ ?_ | (show 0 + _ ≤ List.length _; simp))) ALeL.refl (c_apart r.closed t hr) rfl ?_) | fail)
  rfl
theorem c_fitx (r : Room) (e : Exam) (hr : r.feats.length ≤ 100000) (he : e.feats.length ≤ 100000) : PCall Tryz.prog 89 [ag r.row, ag e.row] (fun a => a = vbool (pB (fitX r e))) := by
  refine acall_of tok mixed 26 rfl (fn := Tryz.f89) (c := Tryz.f89.body.getD .skip) (by kernel_rfl) (by kernel_rfl) (by kernel_rfl) rfl 0 rfl ?_
  repeat' (first | refine o1 ?_ | refine o2 ?_ | refine k1 ?_ | refine k2 ?_ | refine k4 ?_ | refine eqv_len_map ?_ | fail)
  refine loop_in (fun i : Nat => [(10, vint .i64 i)]) (fun _ => [some ⟨72, 5, false, .box (pvs r.row)⟩, some ⟨69, 4, false, .box (pvs e.row)⟩]) (fun i => i ≤ e.feats.length ∧ ∀ j, j < i → ∀ q, e.feats[j]? = some q → q ∈ r.feats) (fun i => e.feats.length - i) 0 ⟨by omega, fun j hj => by omega⟩ ⟨?_, ?_⟩
  · exact back [0, 1] rfl rfl ⟨rfl, rfl, trivial⟩ (by repeat' (first | exact trivial | exact rfl | refine And.intro ?_ ?_))
  intro i ⟨hi, hall⟩
  rcases Nat.lt_or_ge i e.feats.length with hlt | hge
  · obtain ⟨q, hq⟩ := getE hlt
    repeat' (first | refine o1 ?_ | refine o2 ?_ | refine k1 ?_ | refine k2 ?_ | refine k3 ?_ | refine k4 ?_ | refine k6 ?_ | refine k7 ?_ | refine And.intro ?_ ?_ | (intro h; first | exact Bool.noConfusion h | exact nz _ h | exact nl h | (simp at h; done) | (simp at h; first | (exfalso; omega) | skip) | skip) | (change retOk _ _ _ _; refine ret_pure rfl trivial ?_) | refine eqv_wrap (by omega) (by omega) ?_ | refine ⟨_, _, (by first | rfl | assumption), at_map (by assumption), ?_⟩ | (change vcFun _ _ _ _ _; refine call_eq rfl (by repeat' (first | trivial | refine And.intro ?_ ?_ | (show 0 + _ ≤ List.length _; simp))) ALeL.refl (c_contains r.feats q hr) rfl ?_) | fail)
    all_goals first
      | exact congrArg vbool (pB_f (show ¬ fitX r e from fun k => absurd (k.1 q (List.mem_of_getElem? hq)) (by assumption))).symm
      | exact ⟨i + 1, ⟨hlt, all_lt_succ hall fun q' h' => by rw [hq] at h'; cases h'; assumption⟩, by omega, back [0, 1] rfl rfl ⟨rfl, rfl, trivial⟩ (by repeat' (first | exact trivial | exact rfl | refine And.intro ?_ ?_))⟩

  · repeat' (first | refine o1 ?_ | refine o2 ?_ | refine k1 ?_ | refine k2 ?_ | refine k3 ?_ | refine k7 ?_ | refine k8 ?_ | refine And.intro ?_ ?_ | (intro h; first | exact Bool.noConfusion h | exact nz _ h | exact nl h | (simp at h; done) | (simp at h; first | (exfalso; omega) | skip) | skip) | (change retOk _ _ _ _; refine ret_pure rfl trivial ?_) | refine eqv_len_map ?_ | fail)
    have h2 : ∀ f ∈ e.feats, f ∈ r.feats := fun f hf => by
      obtain ⟨j, hj⟩ := List.getElem?_of_mem hf
      exact hall j (by have := (List.getElem?_eq_some_iff.1 hj).1; omega) f hj
    exact congrArg vbool (by
      by_cases h3 : (e.studs.length : Int) ≤ r.seats
      · rw [pB_t (show fitX r e from ⟨h2, h3⟩)]; simpa using h3
      · rw [pB_f (show ¬ fitX r e from fun k => h3 k.2)]; simpa using h3)
end Go.Proofs.YtpnghlibmpainaaGreat.Cw
