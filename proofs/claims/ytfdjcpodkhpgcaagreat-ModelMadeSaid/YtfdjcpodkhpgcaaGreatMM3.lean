/-
  The law ModelMade is true: for all arguments the call returns true and the arguments read as before. No conditions.
-/
import Derived.Test.YtfdjcpodkhpgcaaGreatRows
import Derived.WalkKit
import Derived.ProofKit
import Derived.OpenShut
import Derived.Test.YtfdjcpodkhpgcaaGreatMM2

/-
  Made models: the walk, counts.
-/
namespace Go.Proofs.YtfdjcpodkhpgcaaGreat.Cw
open Go.Cw Go.Proofs
set_option linter.unusedVariables false
set_option maxRecDepth 100000
set_option maxHeartbeats 30000000

theorem stageD {Q : Exit → Slots → Heap → Prop} {rest : Code} (t : List Int) (ht : t.length ≤ 400) (a b : Int) (r : Int) (r1 : 1 ≤ r) (r2 : r ≤ 4) (k : Nat) (cls : List (List Opt)) (prs : List Pair) (s2 : cls.length ≤ 5) (hcls : ∀ l ∈ cls, ClsQ r l) (p1 : k ≤ t.length)
    (later : Later (∀ x : Nat × List Count, (x.1 ≤ t.length ∧ x.2.length ≤ 2 ∧ ∀ c ∈ x.2, CtQ cls r c) → forceH [dice t x.1, zeroM, mb (.pv (.sl 1 (cls.map optsRow))) (.pv (.sl 4 (prs.map Pair.row))) (.pv (.sl 4 (x.2.map Count.row))) r] fun H1 => xCode Tryz.prog T 199 1 rest Q ([] ++ [(7, .ptr 2 4 0 0), (6, .ptr (0 + 1) 4 0 0), (0, .ptr 0 2 0 0), (0 + 1, vint .i64 a), (0 + 1 + 1, vint .i64 b)]) H1)) :
    xCode Tryz.prog T 199 1 (.seq codeD rest) Q ([] ++ [(7, .ptr 2 4 0 0), (6, .ptr (0 + 1) 4 0 0), (0, .ptr 0 2 0 0), (0 + 1, vint .i64 a), (0 + 1 + 1, vint .i64 b)]) [dice t k, zeroM, mb (.pv (.sl 1 (cls.map optsRow))) (.pv (.sl 4 (prs.map Pair.row))) nilA r] := by
  show xCode _ _ _ _ (.seq (.seq (.region 34 _ _) _) rest) _ _ _
  dsimp only [zeroM, mb, nilA]
  repeat' (first | (refine join_in (a := .seq (.region 34 _ _) _) (fun _ => []) (fun x : Nat × List Count => [dice t x.1, zeroM, mb (.pv (.sl 1 (cls.map optsRow))) (.pv (.sl 4 (prs.map Pair.row))) (.pv (.sl 4 (x.2.map Count.row))) r]) (fun x => x.1 ≤ t.length ∧ x.2.length ≤ 2 ∧ ∀ c ∈ x.2, CtQ cls r c) ?_) | refine o1 ?_ | refine o2 ?_ | refine k1 ?_ | refine k2 ?_ | refine k4 ?_ | refine And.intro ?_ ?_ | (change vcFun _ _ _ _ _; refine call_next 0 rfl (by assumption) (by assumption) (by omega) (by omega) ?_; intro v kq hv1 hv2 hkq) | fail)
  · refine loop_in (fun x : Nat × Nat × List Count => [(19, vint .i64 x.1)]) (fun x => [dice t x.2.1, zeroM, mb (.pv (.sl 1 (cls.map optsRow))) (.pv (.sl 4 (prs.map Pair.row))) (slP 3 4 (List.map Count.row (x.2.2))) r, obP 91 4 (List.map Count.row (x.2.2))]) (fun x => x.1 + x.2.2.length ≤ 2 ∧ x.2.1 ≤ t.length ∧ ∀ c ∈ x.2.2, CtQ cls r c) (fun x => x.1) (v.toNat, kq, []) ⟨by simp; omega, hkq, fun l hl => absurd hl List.not_mem_nil⟩ ⟨?_, ?_⟩
    · exact back [0, 1, 2, 3] rfl rfl (by repeat' (first | exact trivial | exact rfl | refine And.intro ?_ ?_)) ⟨slot_eq rfl (congrArg (vint .i64) (by show _ = ((v.toNat : Nat) : Int); omega)), (by repeat' (first | exact trivial | exact rfl | refine And.intro ?_ ?_))⟩
    rintro ⟨n, k, cts⟩ ⟨d1, d2, d3⟩
    dsimp only at d1 d2 d3
    rcases cts with _ | ⟨c0, cts⟩
    · simp only [List.length_cons, List.length_nil] at d1
      dsimp only [slP, obP, zeroM, mb, cb4, nilA, List.map, List.length_cons, List.length_nil, List.length_map]
      rcases Nat.eq_zero_or_pos n with rfl | hn
      · repeat' (first | refine o1 ?_ | refine o2 ?_ | refine k1 ?_ | refine k2 ?_ | refine k3 ?_ | refine k8 ?_ | refine And.intro ?_ ?_ | (intro h; first | exact Bool.noConfusion h | exact nz _ h | exact nl h | (simp at h; done) | (simp at h; first | (exfalso; omega) | skip) | skip) | fail)
        exact ⟨(k, []), ⟨d2, by simp, d3⟩, Ghost.trans (Ghost.shut (i := 2) (c := 2) (x := .pv (.val (.slice none 0 0))) rfl rfl rfl (by repeat' (first | trivial)) (show ¬ (2 ∈ ([] : List Nat)) by decide) (ALe.pv PLe.nil)) (back [0, 1, 2] rfl rfl (by repeat' (first | exact trivial | exact rfl | refine And.intro ?_ ?_)) (by repeat' (first | exact trivial | exact rfl | refine And.intro ?_ ?_)))⟩
      · repeat' (first | ((change vcFun _ _ _ _ _; refine call_cost 0 rfl (by assumption) (by assumption) ?_; intro cn kc hcn hkc)) | (refine join_in (a := .region 37 _ _) (fun _ => [(20, .ptr 4 4 0 0)]) (fun x : Nat × Int × Int × Int => [dice t x.1, zeroM, mb (.pv (.sl 1 (cls.map optsRow))) (.pv (.sl 4 (prs.map Pair.row))) (slP 3 4 (List.map Count.row ([]))) r, obP 91 4 (List.map Count.row ([])), cb4 x.2.1 nilA x.2.2.1 x.2.2.2]) (fun x => x.1 ≤ t.length ∧ (0 ≤ x.2.1 ∧ x.2.1 < r) ∧ (0 ≤ x.2.2.1 ∧ x.2.2.1 < 4) ∧ priceP x.2.2.2) ?_) | refine o1 ?_ | refine o2 ?_ | refine k1 ?_ | refine k2 ?_ | refine k3 ?_ | refine k4 ?_ | refine k6 ?_ | refine And.intro ?_ ?_ | (intro h; first | exact Bool.noConfusion h | exact nz _ h | exact nl h | (simp at h; done) | (simp at h; first | (exfalso; omega) | skip) | skip) | exact (by kernel_rfl : drawOk _ _ = true) | (change vcFun _ _ _ _ _; refine call_next 0 rfl (by assumption) (by assumption) (by omega) (by omega) ?_; intro v kq hv1 hv2 hkq) | fail)
        · rename_i v1 q1 a1 a2 a3
          refine ⟨(kc, v1, v, _), ⟨hkc, ⟨a1, a2⟩, ⟨hv1, hv2⟩, ?_⟩, back [0, 1, 2, 3, 4] rfl rfl ⟨rfl, rfl, rfl, rfl, trivial⟩ (by repeat' (first | exact trivial | exact rfl | refine And.intro ?_ ?_))⟩
          dsimp only
          exact pen_ok hcn
        refine ⟨?_⟩
        rintro ⟨k, ru, mo, pe⟩ ⟨m1, m2, m3, m4⟩
        dsimp only at m1 m2 m3 m4
        dsimp only [slP, obP, zeroM, mb, cb4, nilA, List.map, List.length_cons, List.length_nil, List.length_map]
        repeat' (first | (refine join_in (a := .seq (.region 38 _ _) _) (fun _ => []) (fun x : Nat × List Load => [dice t x.1, zeroM, mb (.pv (.sl 1 (cls.map optsRow))) (.pv (.sl 4 (prs.map Pair.row))) (slP 3 4 (List.map Count.row ([]))) r, obP 91 4 (List.map Count.row ([])), cb4 ru (.pv (.sl 3 (x.2.map Load.row))) mo pe]) (fun x => x.1 ≤ t.length ∧ (∀ n, n < x.2.length → loadAt ⟨cls, [], [], 0⟩ x.2 n) ∧ x.2.length ≤ 1000) ?_) | refine o1 ?_ | refine o2 ?_ | refine k1 ?_ | refine k2 ?_ | refine k4 ?_ | refine And.intro ?_ ?_ | fail)
        · refine loop_in (fun x : Nat × Nat × List Load => [(21, vint .i64 x.1)]) (fun x => [dice t x.2.1, zeroM, mb (.pv (.sl 1 (cls.map optsRow))) (.pv (.sl 4 (prs.map Pair.row))) (slP 3 4 (List.map Count.row ([]))) r, obP 91 4 (List.map Count.row ([])), cb4 ru (slP 5 3 (List.map Load.row (x.2.2))) mo pe, obP 105 3 (List.map Load.row (x.2.2))]) (fun x => x.1 ≤ cls.length ∧ x.2.1 ≤ t.length ∧ LoQ cls x.2.2 x.1 0) (fun x => cls.length - x.1) (0, k, []) ⟨Nat.zero_le _, m1, LoQ.nil⟩ ⟨?_, ?_⟩
          · exact back [0, 1, 2, 3, 4, 5] rfl rfl (by repeat' (first | exact trivial | exact rfl | refine And.intro ?_ ?_)) (by repeat' (first | exact trivial | exact rfl | refine And.intro ?_ ?_))
          rintro ⟨i, k, lds⟩ ⟨i1, i2, i3⟩
          dsimp only at i1 i2 i3
          have il := i3.len
          rcases lds with _ | ⟨l0, lds⟩
          · simp only [List.length_cons, List.length_nil] at il
            dsimp only [slP, obP, zeroM, mb, cb4, nilA, List.map, List.length_cons, List.length_nil, List.length_map]
            rcases Nat.lt_or_ge i cls.length with hi1 | hi1
            · obtain ⟨la, hla⟩ := getE hi1
              have hq1 := hcls la (List.mem_of_getElem? hla)
              have hq2 := hq1.2.1
              repeat' (first | refine o1 ?_ | refine o2 ?_ | refine k1 ?_ | refine k2 ?_ | refine k3 ?_ | refine k4 ?_ | refine k6 ?_ | refine And.intro ?_ ?_ | (intro h; first | exact Bool.noConfusion h | exact nz _ h | exact nl h | (simp at h; done) | (simp at h; first | (exfalso; omega) | skip) | skip) | refine eqv_len_map ?_ | fail)
              refine loop_in (fun x : Nat × Nat × List Load => [(22, vint .i64 x.1)]) (fun x => [dice t x.2.1, zeroM, mb (.pv (.sl 1 (cls.map optsRow))) (.pv (.sl 4 (prs.map Pair.row))) (slP 3 4 (List.map Count.row ([]))) r, obP 91 4 (List.map Count.row ([])), cb4 ru (slP 5 3 (List.map Load.row (x.2.2))) mo pe, obP 105 3 (List.map Load.row (x.2.2))]) (fun x => x.1 ≤ la.length ∧ x.2.1 ≤ t.length ∧ LoQ cls x.2.2 i x.1) (fun x => la.length - x.1) (0, k, []) ⟨Nat.zero_le _, i2, i3⟩ ⟨?_, ?_⟩
              · exact back [0, 1, 2, 3, 4, 5] rfl rfl (by repeat' (first | exact trivial | exact rfl | refine And.intro ?_ ?_)) (by repeat' (first | exact trivial | exact rfl | refine And.intro ?_ ?_))
              rintro ⟨j, k, lds⟩ ⟨j1, j2, j3⟩
              dsimp only at j1 j2 j3
              have jl := j3.len
              rcases lds with _ | ⟨l0, lds⟩
              · simp only [List.length_cons, List.length_nil] at jl
                dsimp only [slP, obP, zeroM, mb, cb4, nilA, List.map, List.length_cons, List.length_nil, List.length_map]
                rcases Nat.lt_or_ge j la.length with hj1 | hj1
                · repeat' (first | (refine idx_sl (k := i) (at_map hla) (by omega) ?_) | refine o1 ?_ | refine o2 ?_ | refine k1 ?_ | refine k2 ?_ | refine k3 ?_ | refine k4 ?_ | refine k6 ?_ | refine And.intro ?_ ?_ | refine o3 ?_ | refine o4 ?_ | (intro h; first | exact Bool.noConfusion h | exact nz _ h | exact nl h | (simp at h; done) | (simp at h; first | (exfalso; omega) | skip) | skip) | (refine (?_ : srcLen _ = rowsLen _); rfl) | exact Nat.le_of_ble_eq_true rfl | exact (by kernel_rfl : drawOk _ _ = true) | refine eqv_len_map ?_ | refine eqv_wrap (by omega) (by omega) ?_ | refine eqv_to _ (app_first rfl) (eqv_to 1 rfl ?_) | (change vcFun _ _ _ _ _; refine call_one2 0 rfl (by assumption) (by assumption) (by omega) (by omega) ?_; intro bq kq hkq) | (change vcFunD _ _ _ _ _; refine callD_next 0 rfl (by assumption) (by assumption) (by omega) (by omega) ?_; intro v kq hv1 hv2 hkq) | fail)
                  all_goals first
                    | (exfalso; omega)
                    | skip
                  · exact ⟨(j + 1, kq, [Load.mk i j (1 + v)]), ⟨by show j + 1 ≤ _; omega, hkq, j3.app hla hj1 (by omega) (by omega)⟩, (by show _ - (j + 1) < _; omega), back [0, 1, 2, 3, 4, 7] rfl rfl (by repeat' (first | exact trivial | exact rfl | refine And.intro ?_ ?_)) (by repeat' (first | exact trivial | exact rfl | refine And.intro ?_ ?_))⟩
                  · exact ⟨(j + 1, kq, []), ⟨by show j + 1 ≤ _; omega, hkq, j3.skip⟩, (by show _ - (j + 1) < _; omega), back [0, 1, 2, 3, 4, 5] rfl rfl (by repeat' (first | exact trivial | exact rfl | refine And.intro ?_ ?_)) (by repeat' (first | exact trivial | exact rfl | refine And.intro ?_ ?_))⟩
                · repeat' (first | (refine idx_sl (k := i) (at_map hla) (by omega) ?_) | refine o1 ?_ | refine o2 ?_ | refine k1 ?_ | refine k2 ?_ | refine k3 ?_ | refine k8 ?_ | refine And.intro ?_ ?_ | (intro h; first | exact Bool.noConfusion h | exact nz _ h | exact nl h | (simp at h; done) | (simp at h; first | (exfalso; omega) | skip) | skip) | refine eqv_len_map ?_ | refine eqv_wrap (by omega) (by omega) ?_ | fail)
                  exact ⟨(i + 1, k, []), ⟨by show i + 1 ≤ _; omega, j2, j3.toI (by omega)⟩, (by show _ - (i + 1) < _; omega), back [0, 1, 2, 3, 4, 5] rfl rfl (by repeat' (first | exact trivial | exact rfl | refine And.intro ?_ ?_)) (by repeat' (first | exact trivial | exact rfl | refine And.intro ?_ ?_))⟩
              · simp only [List.length_cons, List.length_nil] at jl
                dsimp only [slP, obP, zeroM, mb, cb4, nilA, List.map, List.length_cons, List.length_nil, List.length_map]
                rcases Nat.lt_or_ge j la.length with hj1 | hj1
                · repeat' (first | (refine idx_sl (k := i) (at_map hla) (by omega) ?_) | (refine app_consm (f := Load.row) (Load.mk i j (1 + v)) rfl ?_) | refine o1 ?_ | refine o2 ?_ | refine k1 ?_ | refine k2 ?_ | refine k3 ?_ | refine k4 ?_ | refine k6 ?_ | refine And.intro ?_ ?_ | refine o3 ?_ | refine o4 ?_ | (intro h; first | exact Bool.noConfusion h | exact nz _ h | exact nl h | (simp at h; done) | (simp at h; first | (exfalso; omega) | skip) | skip) | (refine (?_ : srcLen _ = rowsLen _); rfl) | exact (by kernel_rfl : drawOk _ _ = true) | refine eqv_len_map ?_ | refine eqv_wrap (by omega) (by omega) ?_ | (refine (?_ : _ ≤ 140737488355328); simp [rowsLen] <;> omega) | (refine (?_ : _ ≤ 9223372036854775807); simp [rowsLen] <;> omega) | (refine (?_ : _ = rowsLen _); simp [rowsLen] <;> omega) | (change vcFun _ _ _ _ _; refine call_one2 0 rfl (by assumption) (by assumption) (by omega) (by omega) ?_; intro bq kq hkq) | (change vcFunD _ _ _ _ _; refine callD_next 0 rfl (by assumption) (by assumption) (by omega) (by omega) ?_; intro v kq hv1 hv2 hkq) | fail)
                  all_goals first
                    | (exfalso; omega)
                    | skip
                  · exact ⟨(j + 1, kq, l0 :: (lds ++ [Load.mk i j (1 + v)])), ⟨by show j + 1 ≤ _; omega, hkq, j3.app hla hj1 (by omega) (by omega)⟩, (by show _ - (j + 1) < _; omega), back [0, 1, 2, 3, 4, 7] rfl rfl (by repeat' (first | exact trivial | exact rfl | refine And.intro ?_ ?_)) (by repeat' (first | exact trivial | exact rfl | refine And.intro ?_ ?_))⟩
                  · exact ⟨(j + 1, kq, l0 :: lds), ⟨by show j + 1 ≤ _; omega, hkq, j3.skip⟩, (by show _ - (j + 1) < _; omega), back [0, 1, 2, 3, 4, 5] rfl rfl (by repeat' (first | exact trivial | exact rfl | refine And.intro ?_ ?_)) (by repeat' (first | exact trivial | exact rfl | refine And.intro ?_ ?_))⟩
                · repeat' (first | (refine idx_sl (k := i) (at_map hla) (by omega) ?_) | refine o1 ?_ | refine o2 ?_ | refine k1 ?_ | refine k2 ?_ | refine k3 ?_ | refine k8 ?_ | refine And.intro ?_ ?_ | (intro h; first | exact Bool.noConfusion h | exact nz _ h | exact nl h | (simp at h; done) | (simp at h; first | (exfalso; omega) | skip) | skip) | refine eqv_len_map ?_ | refine eqv_wrap (by omega) (by omega) ?_ | fail)
                  exact ⟨(i + 1, k, l0 :: lds), ⟨by show i + 1 ≤ _; omega, j2, j3.toI (by omega)⟩, (by show _ - (i + 1) < _; omega), back [0, 1, 2, 3, 4, 5] rfl rfl (by repeat' (first | exact trivial | exact rfl | refine And.intro ?_ ?_)) (by repeat' (first | exact trivial | exact rfl | refine And.intro ?_ ?_))⟩
            · repeat' (first | refine o1 ?_ | refine o2 ?_ | refine k1 ?_ | refine k2 ?_ | refine k3 ?_ | refine k8 ?_ | refine And.intro ?_ ?_ | (intro h; first | exact Bool.noConfusion h | exact nz _ h | exact nl h | (simp at h; done) | (simp at h; first | (exfalso; omega) | skip) | skip) | refine eqv_len_map ?_ | fail)
              exact ⟨(k, []), ⟨i2, i3.at_, by simp⟩, Ghost.trans (Ghost.shut (i := 4) (c := 1) (x := .pv (.val (.slice none 0 0))) rfl rfl rfl (by repeat' (first | trivial)) (show ¬ (4 ∈ ([] : List Nat)) by decide) (ALe.pv PLe.nil)) (back [0, 1, 2, 3, 4] rfl rfl (by repeat' (first | exact trivial | exact rfl | refine And.intro ?_ ?_)) (by repeat' (first | exact trivial | exact rfl | refine And.intro ?_ ?_)))⟩
          · simp only [List.length_cons, List.length_nil] at il
            dsimp only [slP, obP, zeroM, mb, cb4, nilA, List.map, List.length_cons, List.length_nil, List.length_map]
            rcases Nat.lt_or_ge i cls.length with hi1 | hi1
            · obtain ⟨la, hla⟩ := getE hi1
              have hq1 := hcls la (List.mem_of_getElem? hla)
              have hq2 := hq1.2.1
              repeat' (first | refine o1 ?_ | refine o2 ?_ | refine k1 ?_ | refine k2 ?_ | refine k3 ?_ | refine k4 ?_ | refine k6 ?_ | refine And.intro ?_ ?_ | (intro h; first | exact Bool.noConfusion h | exact nz _ h | exact nl h | (simp at h; done) | (simp at h; first | (exfalso; omega) | skip) | skip) | refine eqv_len_map ?_ | fail)
              refine loop_in (fun x : Nat × Nat × List Load => [(22, vint .i64 x.1)]) (fun x => [dice t x.2.1, zeroM, mb (.pv (.sl 1 (cls.map optsRow))) (.pv (.sl 4 (prs.map Pair.row))) (slP 3 4 (List.map Count.row ([]))) r, obP 91 4 (List.map Count.row ([])), cb4 ru (slP 5 3 (List.map Load.row (x.2.2))) mo pe, obP 105 3 (List.map Load.row (x.2.2))]) (fun x => x.1 ≤ la.length ∧ x.2.1 ≤ t.length ∧ LoQ cls x.2.2 i x.1) (fun x => la.length - x.1) (0, k, l0 :: lds) ⟨Nat.zero_le _, i2, i3⟩ ⟨?_, ?_⟩
              · exact back [0, 1, 2, 3, 4, 5] rfl rfl (by repeat' (first | exact trivial | exact rfl | refine And.intro ?_ ?_)) (by repeat' (first | exact trivial | exact rfl | refine And.intro ?_ ?_))
              rintro ⟨j, k, lds⟩ ⟨j1, j2, j3⟩
              dsimp only at j1 j2 j3
              have jl := j3.len
              rcases lds with _ | ⟨l0, lds⟩
              · simp only [List.length_cons, List.length_nil] at jl
                dsimp only [slP, obP, zeroM, mb, cb4, nilA, List.map, List.length_cons, List.length_nil, List.length_map]
                rcases Nat.lt_or_ge j la.length with hj1 | hj1
                · repeat' (first | (refine idx_sl (k := i) (at_map hla) (by omega) ?_) | refine o1 ?_ | refine o2 ?_ | refine k1 ?_ | refine k2 ?_ | refine k3 ?_ | refine k4 ?_ | refine k6 ?_ | refine And.intro ?_ ?_ | refine o3 ?_ | refine o4 ?_ | (intro h; first | exact Bool.noConfusion h | exact nz _ h | exact nl h | (simp at h; done) | (simp at h; first | (exfalso; omega) | skip) | skip) | (refine (?_ : srcLen _ = rowsLen _); rfl) | exact Nat.le_of_ble_eq_true rfl | exact (by kernel_rfl : drawOk _ _ = true) | refine eqv_len_map ?_ | refine eqv_wrap (by omega) (by omega) ?_ | refine eqv_to _ (app_first rfl) (eqv_to 1 rfl ?_) | (change vcFun _ _ _ _ _; refine call_one2 0 rfl (by assumption) (by assumption) (by omega) (by omega) ?_; intro bq kq hkq) | (change vcFunD _ _ _ _ _; refine callD_next 0 rfl (by assumption) (by assumption) (by omega) (by omega) ?_; intro v kq hv1 hv2 hkq) | fail)
                  all_goals first
                    | (exfalso; omega)
                    | skip
                  · exact ⟨(j + 1, kq, [Load.mk i j (1 + v)]), ⟨by show j + 1 ≤ _; omega, hkq, j3.app hla hj1 (by omega) (by omega)⟩, (by show _ - (j + 1) < _; omega), back [0, 1, 2, 3, 4, 7] rfl rfl (by repeat' (first | exact trivial | exact rfl | refine And.intro ?_ ?_)) (by repeat' (first | exact trivial | exact rfl | refine And.intro ?_ ?_))⟩
                  · exact ⟨(j + 1, kq, []), ⟨by show j + 1 ≤ _; omega, hkq, j3.skip⟩, (by show _ - (j + 1) < _; omega), back [0, 1, 2, 3, 4, 5] rfl rfl (by repeat' (first | exact trivial | exact rfl | refine And.intro ?_ ?_)) (by repeat' (first | exact trivial | exact rfl | refine And.intro ?_ ?_))⟩
                · repeat' (first | (refine idx_sl (k := i) (at_map hla) (by omega) ?_) | refine o1 ?_ | refine o2 ?_ | refine k1 ?_ | refine k2 ?_ | refine k3 ?_ | refine k8 ?_ | refine And.intro ?_ ?_ | (intro h; first | exact Bool.noConfusion h | exact nz _ h | exact nl h | (simp at h; done) | (simp at h; first | (exfalso; omega) | skip) | skip) | refine eqv_len_map ?_ | refine eqv_wrap (by omega) (by omega) ?_ | fail)
                  exact ⟨(i + 1, k, []), ⟨by show i + 1 ≤ _; omega, j2, j3.toI (by omega)⟩, (by show _ - (i + 1) < _; omega), back [0, 1, 2, 3, 4, 5] rfl rfl (by repeat' (first | exact trivial | exact rfl | refine And.intro ?_ ?_)) (by repeat' (first | exact trivial | exact rfl | refine And.intro ?_ ?_))⟩
              · simp only [List.length_cons, List.length_nil] at jl
                dsimp only [slP, obP, zeroM, mb, cb4, nilA, List.map, List.length_cons, List.length_nil, List.length_map]
                rcases Nat.lt_or_ge j la.length with hj1 | hj1
                · repeat' (first | (refine idx_sl (k := i) (at_map hla) (by omega) ?_) | (refine app_consm (f := Load.row) (Load.mk i j (1 + v)) rfl ?_) | refine o1 ?_ | refine o2 ?_ | refine k1 ?_ | refine k2 ?_ | refine k3 ?_ | refine k4 ?_ | refine k6 ?_ | refine And.intro ?_ ?_ | refine o3 ?_ | refine o4 ?_ | (intro h; first | exact Bool.noConfusion h | exact nz _ h | exact nl h | (simp at h; done) | (simp at h; first | (exfalso; omega) | skip) | skip) | (refine (?_ : srcLen _ = rowsLen _); rfl) | exact (by kernel_rfl : drawOk _ _ = true) | refine eqv_len_map ?_ | refine eqv_wrap (by omega) (by omega) ?_ | (refine (?_ : _ ≤ 140737488355328); simp [rowsLen] <;> omega) | (refine (?_ : _ ≤ 9223372036854775807); simp [rowsLen] <;> omega) | (refine (?_ : _ = rowsLen _); simp [rowsLen] <;> omega) | (change vcFun _ _ _ _ _; refine call_one2 0 rfl (by assumption) (by assumption) (by omega) (by omega) ?_; intro bq kq hkq) | (change vcFunD _ _ _ _ _; refine callD_next 0 rfl (by assumption) (by assumption) (by omega) (by omega) ?_; intro v kq hv1 hv2 hkq) | fail)
                  all_goals first
                    | (exfalso; omega)
                    | skip
                  · exact ⟨(j + 1, kq, l0 :: (lds ++ [Load.mk i j (1 + v)])), ⟨by show j + 1 ≤ _; omega, hkq, j3.app hla hj1 (by omega) (by omega)⟩, (by show _ - (j + 1) < _; omega), back [0, 1, 2, 3, 4, 7] rfl rfl (by repeat' (first | exact trivial | exact rfl | refine And.intro ?_ ?_)) (by repeat' (first | exact trivial | exact rfl | refine And.intro ?_ ?_))⟩
                  · exact ⟨(j + 1, kq, l0 :: lds), ⟨by show j + 1 ≤ _; omega, hkq, j3.skip⟩, (by show _ - (j + 1) < _; omega), back [0, 1, 2, 3, 4, 5] rfl rfl (by repeat' (first | exact trivial | exact rfl | refine And.intro ?_ ?_)) (by repeat' (first | exact trivial | exact rfl | refine And.intro ?_ ?_))⟩
                · repeat' (first | (refine idx_sl (k := i) (at_map hla) (by omega) ?_) | refine o1 ?_ | refine o2 ?_ | refine k1 ?_ | refine k2 ?_ | refine k3 ?_ | refine k8 ?_ | refine And.intro ?_ ?_ | (intro h; first | exact Bool.noConfusion h | exact nz _ h | exact nl h | (simp at h; done) | (simp at h; first | (exfalso; omega) | skip) | skip) | refine eqv_len_map ?_ | refine eqv_wrap (by omega) (by omega) ?_ | fail)
                  exact ⟨(i + 1, k, l0 :: lds), ⟨by show i + 1 ≤ _; omega, j2, j3.toI (by omega)⟩, (by show _ - (i + 1) < _; omega), back [0, 1, 2, 3, 4, 5] rfl rfl (by repeat' (first | exact trivial | exact rfl | refine And.intro ?_ ?_)) (by repeat' (first | exact trivial | exact rfl | refine And.intro ?_ ?_))⟩
            · repeat' (first | refine o1 ?_ | refine o2 ?_ | refine k1 ?_ | refine k2 ?_ | refine k3 ?_ | refine k8 ?_ | refine And.intro ?_ ?_ | (intro h; first | exact Bool.noConfusion h | exact nz _ h | exact nl h | (simp at h; done) | (simp at h; first | (exfalso; omega) | skip) | skip) | refine eqv_len_map ?_ | fail)
              exact ⟨(k, l0 :: lds), ⟨i2, i3.at_, by simp only [List.length_cons]; omega⟩, Ghost.trans (Ghost.shut (i := 4) (c := 1) (x := .ms 5 3 0 ((List.map Load.row lds).length + 1)) rfl rfl rfl (by repeat' (first | (show 0 + _ ≤ List.length _; simp))) (show ¬ (4 ∈ ([5] : List Nat)) by decide) (ALe.pv (whole_le (f := Load.row) (l := l0 :: lds) (by simp)))) (back [0, 1, 2, 3, 4] rfl rfl (by repeat' (first | exact trivial | exact rfl | refine And.intro ?_ ?_)) (by repeat' (first | exact trivial | exact rfl | refine And.intro ?_ ?_)))⟩
        refine ⟨?_⟩
        rintro ⟨k, lds⟩ ⟨f1, f2, f3⟩
        dsimp only at f1 f2 f3
        dsimp only [slP, obP, zeroM, mb, cb4, nilA, List.map, List.length_cons, List.length_nil, List.length_map]
        repeat' (first | refine o1 ?_ | refine o2 ?_ | refine k2 ?_ | refine And.intro ?_ ?_ | (intro h; first | exact Bool.noConfusion h | exact nz _ h | exact nl h | (simp at h; done) | (simp at h; first | (exfalso; omega) | skip) | skip) | (refine (?_ : srcLen _ = rowsLen _); rfl) | exact Nat.le_of_ble_eq_true rfl | refine eqv_wrap (by omega) (by omega) ?_ | refine eqv_to _ (app_first rfl) (eqv_to 1 rfl ?_) | fail)
        exact ⟨(n - 1, k, [Count.mk ru lds mo pe]), ⟨by show n - 1 + List.length _ ≤ 2; simp; try omega, f1, all_app (l := []) d3 (show CtQ cls r (Count.mk ru lds mo pe) from ⟨⟨m2, m3.1, by have := m3.2; dsimp only; omega, m4, f2⟩, f3⟩)⟩, (by show n - 1 < n; omega), back [0, 1, 2, 6] rfl rfl (by repeat' (first | exact trivial | exact rfl | refine And.intro ?_ ?_)) ⟨slot_eq rfl (congrArg (vint .i64) (by show _ = ((n - 1 : Nat) : Int); omega)), (by repeat' (first | exact trivial | exact rfl | refine And.intro ?_ ?_))⟩⟩
    · simp only [List.length_cons, List.length_nil] at d1
      dsimp only [slP, obP, zeroM, mb, cb4, nilA, List.map, List.length_cons, List.length_nil, List.length_map]
      rcases Nat.eq_zero_or_pos n with rfl | hn
      · repeat' (first | refine o1 ?_ | refine o2 ?_ | refine k1 ?_ | refine k2 ?_ | refine k3 ?_ | refine k8 ?_ | refine And.intro ?_ ?_ | (intro h; first | exact Bool.noConfusion h | exact nz _ h | exact nl h | (simp at h; done) | (simp at h; first | (exfalso; omega) | skip) | skip) | fail)
        exact ⟨(k, c0 :: cts), ⟨d2, by simp only [List.length_cons]; omega, d3⟩, Ghost.trans (Ghost.shut (i := 2) (c := 2) (x := .ms 3 4 0 ((List.map Count.row cts).length + 1)) rfl rfl rfl (by repeat' (first | (show 0 + _ ≤ List.length _; simp))) (show ¬ (2 ∈ ([3] : List Nat)) by decide) (ALe.pv (whole_le (f := Count.row) (l := c0 :: cts) (by simp)))) (back [0, 1, 2] rfl rfl (by repeat' (first | exact trivial | exact rfl | refine And.intro ?_ ?_)) (by repeat' (first | exact trivial | exact rfl | refine And.intro ?_ ?_)))⟩
      · repeat' (first | ((change vcFun _ _ _ _ _; refine call_cost 0 rfl (by assumption) (by assumption) ?_; intro cn kc hcn hkc)) | (refine join_in (a := .region 37 _ _) (fun _ => [(20, .ptr 4 4 0 0)]) (fun x : Nat × Int × Int × Int => [dice t x.1, zeroM, mb (.pv (.sl 1 (cls.map optsRow))) (.pv (.sl 4 (prs.map Pair.row))) (slP 3 4 (List.map Count.row (c0 :: cts))) r, obP 91 4 (List.map Count.row (c0 :: cts)), cb4 x.2.1 nilA x.2.2.1 x.2.2.2]) (fun x => x.1 ≤ t.length ∧ (0 ≤ x.2.1 ∧ x.2.1 < r) ∧ (0 ≤ x.2.2.1 ∧ x.2.2.1 < 4) ∧ priceP x.2.2.2) ?_) | refine o1 ?_ | refine o2 ?_ | refine k1 ?_ | refine k2 ?_ | refine k3 ?_ | refine k4 ?_ | refine k6 ?_ | refine And.intro ?_ ?_ | (intro h; first | exact Bool.noConfusion h | exact nz _ h | exact nl h | (simp at h; done) | (simp at h; first | (exfalso; omega) | skip) | skip) | exact (by kernel_rfl : drawOk _ _ = true) | (change vcFun _ _ _ _ _; refine call_next 0 rfl (by assumption) (by assumption) (by omega) (by omega) ?_; intro v kq hv1 hv2 hkq) | fail)
        · rename_i v1 q1 a1 a2 a3
          refine ⟨(kc, v1, v, _), ⟨hkc, ⟨a1, a2⟩, ⟨hv1, hv2⟩, ?_⟩, back [0, 1, 2, 3, 4] rfl rfl ⟨rfl, rfl, rfl, rfl, rfl, trivial⟩ (by repeat' (first | exact trivial | exact rfl | refine And.intro ?_ ?_))⟩
          dsimp only
          exact pen_ok hcn
        refine ⟨?_⟩
        rintro ⟨k, ru, mo, pe⟩ ⟨m1, m2, m3, m4⟩
        dsimp only at m1 m2 m3 m4
        dsimp only [slP, obP, zeroM, mb, cb4, nilA, List.map, List.length_cons, List.length_nil, List.length_map]
        repeat' (first | (refine join_in (a := .seq (.region 38 _ _) _) (fun _ => []) (fun x : Nat × List Load => [dice t x.1, zeroM, mb (.pv (.sl 1 (cls.map optsRow))) (.pv (.sl 4 (prs.map Pair.row))) (slP 3 4 (List.map Count.row (c0 :: cts))) r, obP 91 4 (List.map Count.row (c0 :: cts)), cb4 ru (.pv (.sl 3 (x.2.map Load.row))) mo pe]) (fun x => x.1 ≤ t.length ∧ (∀ n, n < x.2.length → loadAt ⟨cls, [], [], 0⟩ x.2 n) ∧ x.2.length ≤ 1000) ?_) | refine o1 ?_ | refine o2 ?_ | refine k1 ?_ | refine k2 ?_ | refine k4 ?_ | refine And.intro ?_ ?_ | fail)
        · refine loop_in (fun x : Nat × Nat × List Load => [(21, vint .i64 x.1)]) (fun x => [dice t x.2.1, zeroM, mb (.pv (.sl 1 (cls.map optsRow))) (.pv (.sl 4 (prs.map Pair.row))) (slP 3 4 (List.map Count.row (c0 :: cts))) r, obP 91 4 (List.map Count.row (c0 :: cts)), cb4 ru (slP 5 3 (List.map Load.row (x.2.2))) mo pe, obP 105 3 (List.map Load.row (x.2.2))]) (fun x => x.1 ≤ cls.length ∧ x.2.1 ≤ t.length ∧ LoQ cls x.2.2 x.1 0) (fun x => cls.length - x.1) (0, k, []) ⟨Nat.zero_le _, m1, LoQ.nil⟩ ⟨?_, ?_⟩
          · exact back [0, 1, 2, 3, 4, 5] rfl rfl (by repeat' (first | exact trivial | exact rfl | refine And.intro ?_ ?_)) (by repeat' (first | exact trivial | exact rfl | refine And.intro ?_ ?_))
          rintro ⟨i, k, lds⟩ ⟨i1, i2, i3⟩
          dsimp only at i1 i2 i3
          have il := i3.len
          rcases lds with _ | ⟨l0, lds⟩
          · simp only [List.length_cons, List.length_nil] at il
            dsimp only [slP, obP, zeroM, mb, cb4, nilA, List.map, List.length_cons, List.length_nil, List.length_map]
            rcases Nat.lt_or_ge i cls.length with hi1 | hi1
            · obtain ⟨la, hla⟩ := getE hi1
              have hq1 := hcls la (List.mem_of_getElem? hla)
              have hq2 := hq1.2.1
              repeat' (first | refine o1 ?_ | refine o2 ?_ | refine k1 ?_ | refine k2 ?_ | refine k3 ?_ | refine k4 ?_ | refine k6 ?_ | refine And.intro ?_ ?_ | (intro h; first | exact Bool.noConfusion h | exact nz _ h | exact nl h | (simp at h; done) | (simp at h; first | (exfalso; omega) | skip) | skip) | refine eqv_len_map ?_ | fail)
              refine loop_in (fun x : Nat × Nat × List Load => [(22, vint .i64 x.1)]) (fun x => [dice t x.2.1, zeroM, mb (.pv (.sl 1 (cls.map optsRow))) (.pv (.sl 4 (prs.map Pair.row))) (slP 3 4 (List.map Count.row (c0 :: cts))) r, obP 91 4 (List.map Count.row (c0 :: cts)), cb4 ru (slP 5 3 (List.map Load.row (x.2.2))) mo pe, obP 105 3 (List.map Load.row (x.2.2))]) (fun x => x.1 ≤ la.length ∧ x.2.1 ≤ t.length ∧ LoQ cls x.2.2 i x.1) (fun x => la.length - x.1) (0, k, []) ⟨Nat.zero_le _, i2, i3⟩ ⟨?_, ?_⟩
              · exact back [0, 1, 2, 3, 4, 5] rfl rfl (by repeat' (first | exact trivial | exact rfl | refine And.intro ?_ ?_)) (by repeat' (first | exact trivial | exact rfl | refine And.intro ?_ ?_))
              rintro ⟨j, k, lds⟩ ⟨j1, j2, j3⟩
              dsimp only at j1 j2 j3
              have jl := j3.len
              rcases lds with _ | ⟨l0, lds⟩
              · simp only [List.length_cons, List.length_nil] at jl
                dsimp only [slP, obP, zeroM, mb, cb4, nilA, List.map, List.length_cons, List.length_nil, List.length_map]
                rcases Nat.lt_or_ge j la.length with hj1 | hj1
                · repeat' (first | (refine idx_sl (k := i) (at_map hla) (by omega) ?_) | refine o1 ?_ | refine o2 ?_ | refine k1 ?_ | refine k2 ?_ | refine k3 ?_ | refine k4 ?_ | refine k6 ?_ | refine And.intro ?_ ?_ | refine o3 ?_ | refine o4 ?_ | (intro h; first | exact Bool.noConfusion h | exact nz _ h | exact nl h | (simp at h; done) | (simp at h; first | (exfalso; omega) | skip) | skip) | (refine (?_ : srcLen _ = rowsLen _); rfl) | exact Nat.le_of_ble_eq_true rfl | exact (by kernel_rfl : drawOk _ _ = true) | refine eqv_len_map ?_ | refine eqv_wrap (by omega) (by omega) ?_ | refine eqv_to _ (app_first rfl) (eqv_to 1 rfl ?_) | (change vcFun _ _ _ _ _; refine call_one2 0 rfl (by assumption) (by assumption) (by omega) (by omega) ?_; intro bq kq hkq) | (change vcFunD _ _ _ _ _; refine callD_next 0 rfl (by assumption) (by assumption) (by omega) (by omega) ?_; intro v kq hv1 hv2 hkq) | fail)
                  all_goals first
                    | (exfalso; omega)
                    | skip
                  · exact ⟨(j + 1, kq, [Load.mk i j (1 + v)]), ⟨by show j + 1 ≤ _; omega, hkq, j3.app hla hj1 (by omega) (by omega)⟩, (by show _ - (j + 1) < _; omega), back [0, 1, 2, 3, 4, 7] rfl rfl (by repeat' (first | exact trivial | exact rfl | refine And.intro ?_ ?_)) (by repeat' (first | exact trivial | exact rfl | refine And.intro ?_ ?_))⟩
                  · exact ⟨(j + 1, kq, []), ⟨by show j + 1 ≤ _; omega, hkq, j3.skip⟩, (by show _ - (j + 1) < _; omega), back [0, 1, 2, 3, 4, 5] rfl rfl (by repeat' (first | exact trivial | exact rfl | refine And.intro ?_ ?_)) (by repeat' (first | exact trivial | exact rfl | refine And.intro ?_ ?_))⟩
                · repeat' (first | (refine idx_sl (k := i) (at_map hla) (by omega) ?_) | refine o1 ?_ | refine o2 ?_ | refine k1 ?_ | refine k2 ?_ | refine k3 ?_ | refine k8 ?_ | refine And.intro ?_ ?_ | (intro h; first | exact Bool.noConfusion h | exact nz _ h | exact nl h | (simp at h; done) | (simp at h; first | (exfalso; omega) | skip) | skip) | refine eqv_len_map ?_ | refine eqv_wrap (by omega) (by omega) ?_ | fail)
                  exact ⟨(i + 1, k, []), ⟨by show i + 1 ≤ _; omega, j2, j3.toI (by omega)⟩, (by show _ - (i + 1) < _; omega), back [0, 1, 2, 3, 4, 5] rfl rfl (by repeat' (first | exact trivial | exact rfl | refine And.intro ?_ ?_)) (by repeat' (first | exact trivial | exact rfl | refine And.intro ?_ ?_))⟩
              · simp only [List.length_cons, List.length_nil] at jl
                dsimp only [slP, obP, zeroM, mb, cb4, nilA, List.map, List.length_cons, List.length_nil, List.length_map]
                rcases Nat.lt_or_ge j la.length with hj1 | hj1
                · repeat' (first | (refine idx_sl (k := i) (at_map hla) (by omega) ?_) | (refine app_consm (f := Load.row) (Load.mk i j (1 + v)) rfl ?_) | refine o1 ?_ | refine o2 ?_ | refine k1 ?_ | refine k2 ?_ | refine k3 ?_ | refine k4 ?_ | refine k6 ?_ | refine And.intro ?_ ?_ | refine o3 ?_ | refine o4 ?_ | (intro h; first | exact Bool.noConfusion h | exact nz _ h | exact nl h | (simp at h; done) | (simp at h; first | (exfalso; omega) | skip) | skip) | (refine (?_ : srcLen _ = rowsLen _); rfl) | exact (by kernel_rfl : drawOk _ _ = true) | refine eqv_len_map ?_ | refine eqv_wrap (by omega) (by omega) ?_ | (refine (?_ : _ ≤ 140737488355328); simp [rowsLen] <;> omega) | (refine (?_ : _ ≤ 9223372036854775807); simp [rowsLen] <;> omega) | (refine (?_ : _ = rowsLen _); simp [rowsLen] <;> omega) | (change vcFun _ _ _ _ _; refine call_one2 0 rfl (by assumption) (by assumption) (by omega) (by omega) ?_; intro bq kq hkq) | (change vcFunD _ _ _ _ _; refine callD_next 0 rfl (by assumption) (by assumption) (by omega) (by omega) ?_; intro v kq hv1 hv2 hkq) | fail)
                  all_goals first
                    | (exfalso; omega)
                    | skip
                  · exact ⟨(j + 1, kq, l0 :: (lds ++ [Load.mk i j (1 + v)])), ⟨by show j + 1 ≤ _; omega, hkq, j3.app hla hj1 (by omega) (by omega)⟩, (by show _ - (j + 1) < _; omega), back [0, 1, 2, 3, 4, 7] rfl rfl (by repeat' (first | exact trivial | exact rfl | refine And.intro ?_ ?_)) (by repeat' (first | exact trivial | exact rfl | refine And.intro ?_ ?_))⟩
                  · exact ⟨(j + 1, kq, l0 :: lds), ⟨by show j + 1 ≤ _; omega, hkq, j3.skip⟩, (by show _ - (j + 1) < _; omega), back [0, 1, 2, 3, 4, 5] rfl rfl (by repeat' (first | exact trivial | exact rfl | refine And.intro ?_ ?_)) (by repeat' (first | exact trivial | exact rfl | refine And.intro ?_ ?_))⟩
                · repeat' (first | (refine idx_sl (k := i) (at_map hla) (by omega) ?_) | refine o1 ?_ | refine o2 ?_ | refine k1 ?_ | refine k2 ?_ | refine k3 ?_ | refine k8 ?_ | refine And.intro ?_ ?_ | (intro h; first | exact Bool.noConfusion h | exact nz _ h | exact nl h | (simp at h; done) | (simp at h; first | (exfalso; omega) | skip) | skip) | refine eqv_len_map ?_ | refine eqv_wrap (by omega) (by omega) ?_ | fail)
                  exact ⟨(i + 1, k, l0 :: lds), ⟨by show i + 1 ≤ _; omega, j2, j3.toI (by omega)⟩, (by show _ - (i + 1) < _; omega), back [0, 1, 2, 3, 4, 5] rfl rfl (by repeat' (first | exact trivial | exact rfl | refine And.intro ?_ ?_)) (by repeat' (first | exact trivial | exact rfl | refine And.intro ?_ ?_))⟩
            · repeat' (first | refine o1 ?_ | refine o2 ?_ | refine k1 ?_ | refine k2 ?_ | refine k3 ?_ | refine k8 ?_ | refine And.intro ?_ ?_ | (intro h; first | exact Bool.noConfusion h | exact nz _ h | exact nl h | (simp at h; done) | (simp at h; first | (exfalso; omega) | skip) | skip) | refine eqv_len_map ?_ | fail)
              exact ⟨(k, []), ⟨i2, i3.at_, by simp⟩, Ghost.trans (Ghost.shut (i := 4) (c := 1) (x := .pv (.val (.slice none 0 0))) rfl rfl rfl (by repeat' (first | trivial)) (show ¬ (4 ∈ ([] : List Nat)) by decide) (ALe.pv PLe.nil)) (back [0, 1, 2, 3, 4] rfl rfl (by repeat' (first | exact trivial | exact rfl | refine And.intro ?_ ?_)) (by repeat' (first | exact trivial | exact rfl | refine And.intro ?_ ?_)))⟩
          · simp only [List.length_cons, List.length_nil] at il
            dsimp only [slP, obP, zeroM, mb, cb4, nilA, List.map, List.length_cons, List.length_nil, List.length_map]
            rcases Nat.lt_or_ge i cls.length with hi1 | hi1
            · obtain ⟨la, hla⟩ := getE hi1
              have hq1 := hcls la (List.mem_of_getElem? hla)
              have hq2 := hq1.2.1
              repeat' (first | refine o1 ?_ | refine o2 ?_ | refine k1 ?_ | refine k2 ?_ | refine k3 ?_ | refine k4 ?_ | refine k6 ?_ | refine And.intro ?_ ?_ | (intro h; first | exact Bool.noConfusion h | exact nz _ h | exact nl h | (simp at h; done) | (simp at h; first | (exfalso; omega) | skip) | skip) | refine eqv_len_map ?_ | fail)
              refine loop_in (fun x : Nat × Nat × List Load => [(22, vint .i64 x.1)]) (fun x => [dice t x.2.1, zeroM, mb (.pv (.sl 1 (cls.map optsRow))) (.pv (.sl 4 (prs.map Pair.row))) (slP 3 4 (List.map Count.row (c0 :: cts))) r, obP 91 4 (List.map Count.row (c0 :: cts)), cb4 ru (slP 5 3 (List.map Load.row (x.2.2))) mo pe, obP 105 3 (List.map Load.row (x.2.2))]) (fun x => x.1 ≤ la.length ∧ x.2.1 ≤ t.length ∧ LoQ cls x.2.2 i x.1) (fun x => la.length - x.1) (0, k, l0 :: lds) ⟨Nat.zero_le _, i2, i3⟩ ⟨?_, ?_⟩
              · exact back [0, 1, 2, 3, 4, 5] rfl rfl (by repeat' (first | exact trivial | exact rfl | refine And.intro ?_ ?_)) (by repeat' (first | exact trivial | exact rfl | refine And.intro ?_ ?_))
              rintro ⟨j, k, lds⟩ ⟨j1, j2, j3⟩
              dsimp only at j1 j2 j3
              have jl := j3.len
              rcases lds with _ | ⟨l0, lds⟩
              · simp only [List.length_cons, List.length_nil] at jl
                dsimp only [slP, obP, zeroM, mb, cb4, nilA, List.map, List.length_cons, List.length_nil, List.length_map]
                rcases Nat.lt_or_ge j la.length with hj1 | hj1
                · repeat' (first | (refine idx_sl (k := i) (at_map hla) (by omega) ?_) | refine o1 ?_ | refine o2 ?_ | refine k1 ?_ | refine k2 ?_ | refine k3 ?_ | refine k4 ?_ | refine k6 ?_ | refine And.intro ?_ ?_ | refine o3 ?_ | refine o4 ?_ | (intro h; first | exact Bool.noConfusion h | exact nz _ h | exact nl h | (simp at h; done) | (simp at h; first | (exfalso; omega) | skip) | skip) | (refine (?_ : srcLen _ = rowsLen _); rfl) | exact Nat.le_of_ble_eq_true rfl | exact (by kernel_rfl : drawOk _ _ = true) | refine eqv_len_map ?_ | refine eqv_wrap (by omega) (by omega) ?_ | refine eqv_to _ (app_first rfl) (eqv_to 1 rfl ?_) | (change vcFun _ _ _ _ _; refine call_one2 0 rfl (by assumption) (by assumption) (by omega) (by omega) ?_; intro bq kq hkq) | (change vcFunD _ _ _ _ _; refine callD_next 0 rfl (by assumption) (by assumption) (by omega) (by omega) ?_; intro v kq hv1 hv2 hkq) | fail)
                  all_goals first
                    | (exfalso; omega)
                    | skip
                  · exact ⟨(j + 1, kq, [Load.mk i j (1 + v)]), ⟨by show j + 1 ≤ _; omega, hkq, j3.app hla hj1 (by omega) (by omega)⟩, (by show _ - (j + 1) < _; omega), back [0, 1, 2, 3, 4, 7] rfl rfl (by repeat' (first | exact trivial | exact rfl | refine And.intro ?_ ?_)) (by repeat' (first | exact trivial | exact rfl | refine And.intro ?_ ?_))⟩
                  · exact ⟨(j + 1, kq, []), ⟨by show j + 1 ≤ _; omega, hkq, j3.skip⟩, (by show _ - (j + 1) < _; omega), back [0, 1, 2, 3, 4, 5] rfl rfl (by repeat' (first | exact trivial | exact rfl | refine And.intro ?_ ?_)) (by repeat' (first | exact trivial | exact rfl | refine And.intro ?_ ?_))⟩
                · repeat' (first | (refine idx_sl (k := i) (at_map hla) (by omega) ?_) | refine o1 ?_ | refine o2 ?_ | refine k1 ?_ | refine k2 ?_ | refine k3 ?_ | refine k8 ?_ | refine And.intro ?_ ?_ | (intro h; first | exact Bool.noConfusion h | exact nz _ h | exact nl h | (simp at h; done) | (simp at h; first | (exfalso; omega) | skip) | skip) | refine eqv_len_map ?_ | refine eqv_wrap (by omega) (by omega) ?_ | fail)
                  exact ⟨(i + 1, k, []), ⟨by show i + 1 ≤ _; omega, j2, j3.toI (by omega)⟩, (by show _ - (i + 1) < _; omega), back [0, 1, 2, 3, 4, 5] rfl rfl (by repeat' (first | exact trivial | exact rfl | refine And.intro ?_ ?_)) (by repeat' (first | exact trivial | exact rfl | refine And.intro ?_ ?_))⟩
              · simp only [List.length_cons, List.length_nil] at jl
                dsimp only [slP, obP, zeroM, mb, cb4, nilA, List.map, List.length_cons, List.length_nil, List.length_map]
                rcases Nat.lt_or_ge j la.length with hj1 | hj1
                · repeat' (first | (refine idx_sl (k := i) (at_map hla) (by omega) ?_) | (refine app_consm (f := Load.row) (Load.mk i j (1 + v)) rfl ?_) | refine o1 ?_ | refine o2 ?_ | refine k1 ?_ | refine k2 ?_ | refine k3 ?_ | refine k4 ?_ | refine k6 ?_ | refine And.intro ?_ ?_ | refine o3 ?_ | refine o4 ?_ | (intro h; first | exact Bool.noConfusion h | exact nz _ h | exact nl h | (simp at h; done) | (simp at h; first | (exfalso; omega) | skip) | skip) | (refine (?_ : srcLen _ = rowsLen _); rfl) | exact (by kernel_rfl : drawOk _ _ = true) | refine eqv_len_map ?_ | refine eqv_wrap (by omega) (by omega) ?_ | (refine (?_ : _ ≤ 140737488355328); simp [rowsLen] <;> omega) | (refine (?_ : _ ≤ 9223372036854775807); simp [rowsLen] <;> omega) | (refine (?_ : _ = rowsLen _); simp [rowsLen] <;> omega) | (change vcFun _ _ _ _ _; refine call_one2 0 rfl (by assumption) (by assumption) (by omega) (by omega) ?_; intro bq kq hkq) | (change vcFunD _ _ _ _ _; refine callD_next 0 rfl (by assumption) (by assumption) (by omega) (by omega) ?_; intro v kq hv1 hv2 hkq) | fail)
                  all_goals first
                    | (exfalso; omega)
                    | skip
                  · exact ⟨(j + 1, kq, l0 :: (lds ++ [Load.mk i j (1 + v)])), ⟨by show j + 1 ≤ _; omega, hkq, j3.app hla hj1 (by omega) (by omega)⟩, (by show _ - (j + 1) < _; omega), back [0, 1, 2, 3, 4, 7] rfl rfl (by repeat' (first | exact trivial | exact rfl | refine And.intro ?_ ?_)) (by repeat' (first | exact trivial | exact rfl | refine And.intro ?_ ?_))⟩
                  · exact ⟨(j + 1, kq, l0 :: lds), ⟨by show j + 1 ≤ _; omega, hkq, j3.skip⟩, (by show _ - (j + 1) < _; omega), back [0, 1, 2, 3, 4, 5] rfl rfl (by repeat' (first | exact trivial | exact rfl | refine And.intro ?_ ?_)) (by repeat' (first | exact trivial | exact rfl | refine And.intro ?_ ?_))⟩
                · repeat' (first | (refine idx_sl (k := i) (at_map hla) (by omega) ?_) | refine o1 ?_ | refine o2 ?_ | refine k1 ?_ | refine k2 ?_ | refine k3 ?_ | refine k8 ?_ | refine And.intro ?_ ?_ | (intro h; first | exact Bool.noConfusion h | exact nz _ h | exact nl h | (simp at h; done) | (simp at h; first | (exfalso; omega) | skip) | skip) | refine eqv_len_map ?_ | refine eqv_wrap (by omega) (by omega) ?_ | fail)
                  exact ⟨(i + 1, k, l0 :: lds), ⟨by show i + 1 ≤ _; omega, j2, j3.toI (by omega)⟩, (by show _ - (i + 1) < _; omega), back [0, 1, 2, 3, 4, 5] rfl rfl (by repeat' (first | exact trivial | exact rfl | refine And.intro ?_ ?_)) (by repeat' (first | exact trivial | exact rfl | refine And.intro ?_ ?_))⟩
            · repeat' (first | refine o1 ?_ | refine o2 ?_ | refine k1 ?_ | refine k2 ?_ | refine k3 ?_ | refine k8 ?_ | refine And.intro ?_ ?_ | (intro h; first | exact Bool.noConfusion h | exact nz _ h | exact nl h | (simp at h; done) | (simp at h; first | (exfalso; omega) | skip) | skip) | refine eqv_len_map ?_ | fail)
              exact ⟨(k, l0 :: lds), ⟨i2, i3.at_, by simp only [List.length_cons]; omega⟩, Ghost.trans (Ghost.shut (i := 4) (c := 1) (x := .ms 5 3 0 ((List.map Load.row lds).length + 1)) rfl rfl rfl (by repeat' (first | (show 0 + _ ≤ List.length _; simp))) (show ¬ (4 ∈ ([5] : List Nat)) by decide) (ALe.pv (whole_le (f := Load.row) (l := l0 :: lds) (by simp)))) (back [0, 1, 2, 3, 4] rfl rfl (by repeat' (first | exact trivial | exact rfl | refine And.intro ?_ ?_)) (by repeat' (first | exact trivial | exact rfl | refine And.intro ?_ ?_)))⟩
        refine ⟨?_⟩
        rintro ⟨k, lds⟩ ⟨f1, f2, f3⟩
        dsimp only at f1 f2 f3
        dsimp only [slP, obP, zeroM, mb, cb4, nilA, List.map, List.length_cons, List.length_nil, List.length_map]
        repeat' (first | (refine app_consm (f := Count.row) (Count.mk ru lds mo pe) rfl ?_) | refine o1 ?_ | refine o2 ?_ | refine k2 ?_ | refine And.intro ?_ ?_ | (refine (?_ : srcLen _ = rowsLen _); rfl) | refine eqv_wrap (by omega) (by omega) ?_ | (refine (?_ : _ ≤ 140737488355328); simp [rowsLen] <;> omega) | (refine (?_ : _ ≤ 9223372036854775807); simp [rowsLen] <;> omega) | (refine (?_ : _ = rowsLen _); simp [rowsLen] <;> omega) | fail)
        exact ⟨(n - 1, k, c0 :: (cts ++ [Count.mk ru lds mo pe])), ⟨by show n - 1 + List.length _ ≤ 2; simp; try omega, f1, all_app (l := c0 :: cts) d3 (show CtQ cls r (Count.mk ru lds mo pe) from ⟨⟨m2, m3.1, by have := m3.2; dsimp only; omega, m4, f2⟩, f3⟩)⟩, (by show n - 1 < n; omega), back [0, 1, 2, 6] rfl rfl (by repeat' (first | exact trivial | exact rfl | refine And.intro ?_ ?_)) ⟨slot_eq rfl (congrArg (vint .i64) (by show _ = ((n - 1 : Nat) : Int); omega)), (by repeat' (first | exact trivial | exact rfl | refine And.intro ?_ ?_))⟩⟩
  · exact later
end Go.Proofs.YtfdjcpodkhpgcaaGreat.Cw

/-
  Made models: the walk.
-/
namespace Go.Proofs.YtfdjcpodkhpgcaaGreat.Cw
open Go.Cw Go.Proofs
set_option linter.unusedVariables false
set_option maxRecDepth 100000
set_option maxHeartbeats 30000000

theorem c_dmodelX (t : List Int) (k : Nat) (ht : t.length ≤ 400) (hk : k ≤ t.length) (a b : Int) (ha : 0 ≤ a ∧ a ≤ 5) (hb : 1 ≤ b ∧ b ≤ 4) :
    ACall Tryz.prog 19 [.ptr 0 2 0 0, vint .i64 a, vint .i64 b] [dice t k] (fun r H' => ∃ (m : Model) (k' : Nat), k' ≤ t.length ∧ Made m ∧ (m.pairs.length ≤ 200 ∧ m.counts.length ≤ 2) ∧ r = ag m.cells ∧ H' = [dice t k']) := by
  refine acall_of tok mixed 199 rfl (fn := Tryz.f19) (c := Tryz.f19.body.getD .skip) (by kernel_rfl) (by kernel_rfl) (by kernel_rfl) rfl 1 rfl ?_
  repeat' (first | (refine join_in (a := .region 1 _ _) (fun _ => [(7, .ptr 2 4 0 0)]) (fun x : Nat × Int => [dice t x.1, zeroM, mb nilA nilA nilA x.2]) (fun x => x.1 ≤ t.length ∧ 1 ≤ x.2 ∧ x.2 ≤ 4) ?_) | refine o1 ?_ | refine o2 ?_ | refine k1 ?_ | refine k2 ?_ | refine And.intro ?_ ?_ | exact (by kernel_rfl : drawOk _ _ = true) | refine eqv_wrap (by omega) (by omega) ?_ | (change vcFun _ _ _ _ _; refine call_next 0 rfl (by assumption) (by assumption) (by omega) (by omega) ?_; intro v kq hv1 hv2 hkq) | fail)
  · exact ⟨(kq, 1 + v), ⟨hkq, by dsimp only; omega, by dsimp only; omega⟩, back [0, 1, 2] rfl rfl (by repeat' (first | exact trivial | exact rfl | refine And.intro ?_ ?_)) (by repeat' (first | exact trivial | exact rfl | refine And.intro ?_ ?_))⟩
  refine ⟨?_⟩
  rintro ⟨k, r⟩ ⟨r0, r1, r2⟩
  dsimp only at r0 r1 r2
  rw [forceH_eq]
  refine stageB t ht a b r r1 r2 k r0 ha hb ?_
  refine ⟨?_⟩
  rintro ⟨k, cls⟩ ⟨s1, s2, hcls⟩
  dsimp only at s1 s2 hcls
  rw [forceH_eq]
  refine stageC t ht a b r r1 r2 k cls s1 s2 hcls ?_
  refine ⟨?_⟩
  rintro ⟨k, prs⟩ ⟨p1, p2, p3⟩
  dsimp only at p1 p2 p3
  rw [forceH_eq]
  refine stageD t ht a b r r1 r2 k cls prs s2 hcls p1 ?_
  refine ⟨?_⟩
  rintro ⟨k, cts⟩ ⟨q1, q2, q3⟩
  dsimp only at q1 q2 q3
  dsimp only [zeroM, mb, nilA]
  repeat' (first | refine o1 ?_ | refine o2 ?_ | refine k1 ?_ | refine k2 ?_ | refine k7 ?_ | fail)
  exact ret_obj [0] [dice t k] rfl rfl ⟨rfl, trivial⟩ (r' := ag (Model.cells ⟨cls, prs, cts, r⟩)) rfl ⟨⟨cls, prs, cts, r⟩, k, q1, made_of s2 hcls p2 p3 q2 q3 r1 r2, ⟨p3, q2⟩, rfl, rfl⟩
theorem c_dmodel (t : List Int) (k : Nat) (ht : t.length ≤ 400) (hk : k ≤ t.length) (a b : Int) (ha : 0 ≤ a ∧ a ≤ 5) (hb : 1 ≤ b ∧ b ≤ 4) :
    ACall Tryz.prog 19 [.ptr 0 2 0 0, vint .i64 a, vint .i64 b] [dice t k] (fun r H' => ∃ (m : Model) (k' : Nat), k' ≤ t.length ∧ Made m ∧ r = ag m.cells ∧ H' = [dice t k']) :=
  (c_dmodelX t k ht hk a b ha hb).mono fun r H' ⟨m, k', h1, h2, _, h3⟩ => ⟨m, k', h1, h2, h3⟩
end Go.Proofs.YtfdjcpodkhpgcaaGreat.Cw

/-
  Odd models: all ways together.
-/
namespace Go.Proofs.YtfdjcpodkhpgcaaGreat.Cw
open Go.Cw Go.Proofs
set_option linter.unusedVariables false
set_option maxRecDepth 100000

theorem Made.tabs {m : Model} (h : Made m) : ∀ p ∈ m.pairs, p.table.length ≤ 100 := fun p hp => by
  have hg : sizedP m ∧ goodP m := by
    have := h.ok
    by_cases h0 : sizedP m
    · by_cases h1 : goodP m
      · exact ⟨h0, h1⟩
      · rw [mE1 h0 h1] at this; omega
    · rw [mE2 h0] at this; omega
  obtain ⟨i, hi⟩ := List.getElem?_of_mem hp
  have hlt : i < m.pairs.length := (List.getElem?_eq_some_iff.1 hi).1
  obtain ⟨⟨_, _, _, ⟨a, b, ha, hb, hl⟩, _⟩, _⟩ := hg.2.2.1 i hlt p hi
  have h1 := (h.some_ a (List.mem_of_getElem? ha)).2
  have h2 := (h.some_ b (List.mem_of_getElem? hb)).2
  rw [hl]
  exact Nat.le_trans (Nat.mul_le_mul h1 h2) (by omega)
theorem c_oddmodel0 (t : List Int) (k : Nat) (ht : t.length ≤ 400) (hk : k ≤ t.length) (m : Model) (q1 : ∀ l ∈ m.classes, ClsL l) (q3 : ∀ c ∈ m.counts, CntL c) (h1 : m.classes.length ≤ 5) (h2 : m.pairs.length ≤ 200) (h3 : m.counts.length ≤ 2) (h4 : ∀ p ∈ m.pairs, p.table.length ≤ 100) :
    ACall Tryz.prog 22 [.ptr 0 2 0 0, ag m.cells] [dice t k] (fun r H' => ∃ (y : Model) (k' : Nat), k' ≤ t.length ∧ Laid y ∧ Leq r (ag y.cells) ∧ H' = [dice t k']) := by
  obtain ⟨cls, prs, cts, ru⟩ := m
  rcases prs with _ | ⟨p0, prs⟩ <;> rcases cts with _ | ⟨c0, cts⟩ <;> rcases cls with _ | ⟨l0, cls⟩
  · exact c_odd000 t k ht hk ru q1 q3 h1 h2 h3 h4
  · exact c_odd001 t k ht hk l0 cls ru q1 q3 h1 h2 h3 h4
  · exact c_odd010 t k ht hk c0 cts ru q1 q3 h1 h2 h3 h4
  · exact c_odd011 t k ht hk c0 cts l0 cls ru q1 q3 h1 h2 h3 h4
  · exact c_odd100 t k ht hk p0 prs ru q1 q3 h1 h2 h3 h4
  · exact c_odd101 t k ht hk p0 prs l0 cls ru q1 q3 h1 h2 h3 h4
  · exact c_odd110 t k ht hk p0 prs c0 cts ru q1 q3 h1 h2 h3 h4
  · exact c_odd111 t k ht hk p0 prs c0 cts l0 cls ru q1 q3 h1 h2 h3 h4
theorem c_oddmodel (t : List Int) (k : Nat) (ht : t.length ≤ 400) (hk : k ≤ t.length) (m : Model) (hm : Made m) (h2 : m.pairs.length ≤ 200) (h3 : m.counts.length ≤ 2) :
    ACall Tryz.prog 22 [.ptr 0 2 0 0, ag m.cells] [dice t k] (fun r H' => ∃ (y : Model) (k' : Nat), k' ≤ t.length ∧ Laid y ∧ r = ag y.cells ∧ H' = [dice t k']) :=
  (c_oddmodel0 t k ht hk m hm.laid.ch hm.laid.ld hm.few h2 h3 hm.tabs).weak fun r H' ⟨y, k', g1, g2, g3, g4⟩ => ⟨_, g3.le, y, k', g1, g2, rfl, g4⟩
end Go.Proofs.YtfdjcpodkhpgcaaGreat.Cw

/-
  The law on valid models.
-/
namespace Go.Proofs.YtfdjcpodkhpgcaaGreat.Cw
open Go.Cw Go.Proofs
set_option linter.unusedVariables false
set_option maxRecDepth 100000
set_option maxHeartbeats 1600000

theorem c_modelvalid (m : Model) (plan : List Int) (p : List Placed) (hl : Laid m) : PCall Tryz.prog 3 [ag m.cells, .pv (encInts plan), .pv (.sl 5 (p.map Placed.row))] (fun r => r = vbool true) := by
  have h1 := placesV_len (m := m) (plan := plan)
  have h2 := planV_len (m := m) (p := p)
  refine acall_of tok mixed 76 rfl (fn := Tryz.f3) (c := Tryz.f3.body.getD .skip) (by kernel_rfl) (by kernel_rfl) (by kernel_rfl) rfl 0 rfl ?_
  repeat' (first | ((change vcFun _ _ _ _ _; refine call_frz rfl (by repeat' (first | trivial | refine And.intro ?_ ?_ | (show 0 + _ ≤ List.length _; simp))) ALeL.refl (c_placement m plan hl) ?_; rintro r rfl)) | ((change vcFun _ _ _ _ _; refine call_frz rfl (by repeat' (first | trivial | refine And.intro ?_ ?_ | (show 0 + _ ≤ List.length _; simp))) ALeL.refl (c_rplacement m plan hl) ?_; rintro r rfl)) | ((change vcFun _ _ _ _ _; refine call_frz rfl (by repeat' (first | trivial | refine And.intro ?_ ?_ | (show 0 + _ ≤ List.length _; simp))) ALeL.refl (c_plan m p hl) ?_; rintro r rfl)) | ((change vcFun _ _ _ _ _; refine call_frz rfl (by repeat' (first | trivial | refine And.intro ?_ ?_ | (show 0 + _ ≤ List.length _; simp))) ALeL.refl (c_rplan m p hl) ?_; rintro r rfl)) | refine o1 ?_ | refine o2 ?_ | refine k1 ?_ | refine k2 ?_ | refine k7 ?_ | refine And.intro ?_ ?_ | refine o3 ?_ | refine o4 ?_ | (intro h; first | exact Bool.noConfusion h | exact nz _ h | exact nl h | (simp at h; done) | (simp at h; first | (exfalso; omega) | skip) | skip) | (change retOk _ _ _ _; refine ret_pure rfl trivial ?_) | exact (by kernel_rfl : drawOk _ _ = true) | (change vcFunD _ _ _ _ _; refine callD_eq rfl (by repeat' (first | trivial | refine And.intro ?_ ?_ | (show 0 + _ ≤ List.length _; simp))) ALeL.refl (awake_ok) rfl ?_) | (change vcFunD _ _ _ _ _; refine callD_eq rfl (by repeat' (first | trivial | refine And.intro ?_ ?_ | (show 0 + _ ≤ List.length _; simp))) ALeL.refl (c_valid m hl) rfl ?_) | (change vcFunD _ _ _ _ _; refine callD_eq rfl (by repeat' (first | trivial | refine And.intro ?_ ?_ | (show 0 + _ ≤ List.length _; simp))) ALeL.refl (c_rvalid m hl) rfl ?_) | (change vcFunD _ _ _ _ _; refine callD_eq rfl (by repeat' (first | trivial | refine And.intro ?_ ?_ | (show 0 + _ ≤ List.length _; simp))) ALeL.refl (c_complete m plan hl) rfl ?_) | (change vcFunD _ _ _ _ _; refine callD_eq rfl (by repeat' (first | trivial | refine And.intro ?_ ?_ | (show 0 + _ ≤ List.length _; simp))) ALeL.refl (c_rcomplete m plan hl) rfl ?_) | (change vcFunD _ _ _ _ _; refine callD_eq rfl (by repeat' (first | trivial | refine And.intro ?_ ?_ | (show 0 + _ ≤ List.length _; simp))) ALeL.refl (c_samePlaces (placesV m plan) (by omega)) rfl ?_) | (change vcFunD _ _ _ _ _; refine callD_eq rfl (by repeat' (first | trivial | refine And.intro ?_ ?_ | (show 0 + _ ≤ List.length _; simp))) ALeL.refl (c_sameInts (planV m p) (by omega)) rfl ?_) | fail)
  all_goals exact rfl
end Go.Proofs.YtfdjcpodkhpgcaaGreat.Cw

/-
  The law on made models and odd ones.
-/
namespace Go.Proofs.YtfdjcpodkhpgcaaGreat.Cw
open Go.Cw Go.Proofs
set_option linter.unusedVariables false
set_option maxRecDepth 100000
set_option maxHeartbeats 1600000

theorem call_dmodelX {t : List Int} {k : Nat} {H : Heap} {K : AV → Heap → Prop} (i : Nat) (a b : Int) (hi : H[i]? = some (dice t k)) (ht : t.length ≤ 400) (hk : k ≤ t.length) (ha : 0 ≤ a ∧ a ≤ 5) (hb : 1 ≤ b ∧ b ≤ 4)
    (hK : ∀ (m : Model) kc, kc ≤ t.length → Made m → m.pairs.length ≤ 200 → m.counts.length ≤ 2 → K (ag m.cells) (H.set i (dice t kc))) : vcFun Tryz.prog 19 [.ptr i 2 0 0, vint .i64 a, vint .i64 b] H K := by
  refine call_one (i := i) hi (fun _ _ => rfl) [.ptr 0 2 0 0, vint .i64 a, vint .i64 b] rfl (c_dmodelX t k ht hk a b ha hb) ?_
  rintro r H' ⟨m, k', h1, h2, ⟨h3, h4⟩, rfl, rfl⟩
  exact ⟨_, rfl, fun _ _ => rfl, fun _ _ => rfl, hK m k' h1 h2 h3 h4⟩
theorem call_dplan {t : List Int} {k : Nat} {H : Heap} {K : AV → Heap → Prop} (i : Nat) (m : Model) (full : Bool) (hi : H[i]? = some (dice t k)) (ht : t.length ≤ 400) (hk : k ≤ t.length) (hm : Made m)
    (hK : ∀ (l : List Int) kc, kc ≤ t.length → PlQ m full l m.classes.length → K (.pv (encInts l)) (H.set i (dice t kc))) : vcFun Tryz.prog 20 [.ptr i 2 0 0, ag m.cells, vbool full] H K := by
  refine call_one (i := i) hi (fun _ _ => rfl) [.ptr 0 2 0 0, ag m.cells, vbool full] rfl (c_dplan t k ht hk m full hm) ?_
  rintro r H' ⟨l, k', h1, h2, rfl, rfl⟩
  exact ⟨_, rfl, fun _ _ => rfl, fun _ _ => rfl, hK l k' h1 h2⟩
theorem call_oddmodel {t : List Int} {k : Nat} {H : Heap} {K : AV → Heap → Prop} (i : Nat) (m : Model) (hi : H[i]? = some (dice t k)) (ht : t.length ≤ 400) (hk : k ≤ t.length) (hm : Made m) (h2 : m.pairs.length ≤ 200) (h3 : m.counts.length ≤ 2)
    (hK : ∀ (y : Model) kc, kc ≤ t.length → Laid y → K (ag y.cells) (H.set i (dice t kc))) : vcFun Tryz.prog 22 [.ptr i 2 0 0, ag m.cells] H K := by
  refine call_one (i := i) hi (fun _ _ => rfl) [.ptr 0 2 0 0, ag m.cells] rfl (c_oddmodel t k ht hk m hm h2 h3) ?_
  rintro r H' ⟨y, k', h1, h2, rfl, rfl⟩
  exact ⟨_, rfl, fun _ _ => rfl, fun _ _ => rfl, hK y k' h1 h2⟩
theorem c_modelmade (t : List Int) : PCall Tryz.prog 4 [.pv (encInts t)] (fun r => r = vbool true) := by
  refine acall_of tok mixed 37 rfl (fn := Tryz.f4) (c := Tryz.f4.body.getD .skip) (by kernel_rfl) (by kernel_rfl) (by kernel_rfl) rfl 0 rfl ?_
  repeat' (first | (refine code_region_any ?_) | ((change vcFun _ _ _ _ _; refine call_new [.pv (encInts t)] rfl (c_roll t) (fun _ _ => rfl) ?_)) | ((change vcFun _ _ _ _ _; refine call_dmodelX 0 4 4 rfl (by assumption) (Nat.zero_le _) (by omega) (by omega) ?_; intro m kc hkc hm hm1 hm2)) | ((change vcFun _ _ _ _ _; refine call_one2 0 rfl (by assumption) (by assumption) (by omega) (by omega) ?_; intro bq kq hkq)) | ((change vcFun _ _ _ _ _; refine call_dplan 0 m _ rfl (by assumption) (by assumption) hm ?_; intro plan kd hkd hpl; have hl1 := placesV_len (m := m) (plan := plan))) | ((change vcFun _ _ _ _ _; refine call_frz rfl (by repeat' (first | trivial | refine And.intro ?_ ?_ | (show 0 + _ ≤ List.length _; simp))) ALeL.refl (c_rplacement m plan hm.laid) ?_; rintro r rfl)) | ((change vcFun _ _ _ _ _; refine call_oddmodel 0 m rfl (by assumption) (by assumption) hm hm1 hm2 ?_; intro y ke hke hy)) | refine o1 ?_ | refine o2 ?_ | refine k1 ?_ | refine k2 ?_ | refine k3 ?_ | refine k6 ?_ | refine k7 ?_ | refine And.intro ?_ ?_ | exact trivial | refine o5 ?_ | refine o6 ?_ | (intro h; first | exact Bool.noConfusion h | exact nz _ h | exact nl h | (simp at h; done) | (simp at h; first | (exfalso; omega) | skip) | skip) | (change retOk _ _ _ _; refine ret_pure rfl trivial ?_) | exact (by kernel_rfl : drawOk _ _ = true) | (change vcFun _ _ _ _ _; refine call_eq rfl (by repeat' (first | trivial | refine And.intro ?_ ?_ | (show 0 + _ ≤ List.length _; simp))) ALeL.refl (c_light t) rfl ?_) | (change vcFun _ _ _ _ _; refine call_eq rfl (by repeat' (first | trivial | refine And.intro ?_ ?_ | (show 0 + _ ≤ List.length _; simp))) ALeL.refl (awake_ok) rfl ?_) | (change vcFun _ _ _ _ _; refine call_eq rfl (by repeat' (first | trivial | refine And.intro ?_ ?_ | (show 0 + _ ≤ List.length _; simp))) ALeL.refl (c_modelvalid y plan (placesV m plan) (by assumption)) rfl ?_) | (change vcFun _ _ _ _ _; refine call_eq rfl (by repeat' (first | trivial | refine And.intro ?_ ?_ | (show 0 + _ ≤ List.length _; simp))) ALeL.refl (c_modelvalid m plan (placesV m plan) hm.laid) rfl ?_) | fail)
  all_goals exact rfl
end Go.Proofs.YtfdjcpodkhpgcaaGreat.Cw

namespace Go.Proofs.YtfdjcpodkhpgcaaGreat
open Go.ChangeShapes Go.WideShapes Go.ChangeAt Go.RowKit
open Go.Cw (ArgsOk vbool)

theorem own : ownKnob Tryz.prog.godebug = none := by kernel_rfl
theorem laid : laidOutB Tryz.prog = true := by kernel_rfl

theorem modelmade_call (al : List Go.Cw.AV) (h : ArgsOk Cw.T Tryz.f4.params.toList al) : Go.Cw.ACall Tryz.prog 4 al [] (fun r _ => r = vbool true) := by
  rw [Tryz.params4] at h
  have h : ArgsOk Cw.T [27] al := h
  obtain ⟨v0, a0, rfl, h0⟩ := Cw.args_ints h
  obtain rfl := Go.Cw.args_end h0
  exact Go.Cw.ACall.mono (Cw.c_modelmade v0) fun r H1 e => e.2

set_option maxRecDepth 100000 in
theorem modelmade_lifted (os : Os) (started : os.Started) (H : Type) (enc : TypeId × Value → H) :
    ReturnsInHanded {} Tryz.checked os 4 .any (Rows.modelMadeSpec.pre6 enc Tryz.prog Tryz.f4 Rows.modelMadeRow.domain false) (Rows.modelMadeSpec.post enc Tryz.prog Tryz.f4 false true false false) := by
  refine returnsInHanded_of_change (C := Tryz.checked) own started (by kernel_rfl) Tryz.func4
    (ChangeSpec.witness6 (enc := enc) (C := Tryz.checked) false ⟨#[], #[.slice none 0 0], []⟩ 8 (by kernel_rfl) (by kernel_rfl) (by kernel_rfl) (by kernel_rfl)) ?_
  intro W base args ds gs before hval0 hW hcnd _
  exact Go.Cw.law_step (T := Cw.T) Cw.tok laid 12 rfl (by kernel_rfl) (by kernel_rfl) Tryz.underlying4
    (fun ds hd => by match ds, hd with | [d0], _ => exact ⟨rfl, rfl, rfl⟩)
    modelmade_call hval0 hW

theorem modelmade_holds : Rows.ModelMadeSaid :=
  OpenClaim.holds_of_wide 4 Tryz.f4 rfl rfl rfl rfl rfl rfl rfl ⟨rfl, rfl, rfl, rfl, rfl⟩ rfl rfl rfl rfl rfl (by kernel_rfl) Tryz.func4 (by kernel_rfl)
    (of_decide_eq_true (by kernel_rfl)) (by unfold Func.isWrapper; first | (rw [if_pos (by decide +kernel)]; kernel_rfl) | (rw [if_neg (by decide +kernel)]; exact ⟨rfl, rfl⟩))
    (fun os started H enc _ => modelmade_lifted os started H enc)

end Go.Proofs.YtfdjcpodkhpgcaaGreat
