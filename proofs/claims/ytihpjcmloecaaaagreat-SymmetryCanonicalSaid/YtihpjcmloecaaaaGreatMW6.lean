/-
  Part 6 of the proof (MkD, Mk2, SE5, M8, Mk3, Mk5, Mk5a, Mk5b, Mk5c, Mk5d, Mk6, SE6, SYB, SYC, SYD, SYF, SYG, SYH): what later parts use. No conditions.
-/
import Derived.Test.YtihpjcmloecaaaaGreatMW5
/-
  Made models: the walk, counts.
-/
namespace Go.Proofs.YtihpjcmloecaaaaGreat.Cw
open Go.Cw Go.Proofs
set_option linter.unusedVariables false
set_option maxRecDepth 100000
set_option maxHeartbeats 30000000
theorem stageD {Q : Exit → Slots → Heap → Prop} {rest : Code} (t : List Int) (ht : t.length ≤ 400) (a b : Int) (r : Int) (r1 : 1 ≤ r) (r2 : r ≤ 4) (k : Nat) (cls : List (List Opt)) (prs : List Pair) (s2 : cls.length ≤ 5) (hcls : ∀ l ∈ cls, ClsQ r l) (p1 : k ≤ t.length)
    (later : Later (∀ x : Nat × List Count, (x.1 ≤ t.length ∧ x.2.length ≤ 2 ∧ ∀ c ∈ x.2, CtQ cls r c) → forceH [dice t x.1, zeroM, mb (.pv (.sl 1 (cls.map optsRow))) (.pv (.sl 4 (prs.map Pair.row))) (.pv (.sl 4 (x.2.map Count.row))) r] fun H1 => xCode Tryz.prog T 199 1 rest Q ([] ++ [(7, .ptr 2 4 0 0), (6, .ptr (0 + 1) 4 0 0), (0, .ptr 0 2 0 0), (0 + 1, vint .i64 a), (0 + 1 + 1, vint .i64 b)]) H1)) :
    xCode Tryz.prog T 199 1 (.seq codeD rest) Q ([] ++ [(7, .ptr 2 4 0 0), (6, .ptr (0 + 1) 4 0 0), (0, .ptr 0 2 0 0), (0 + 1, vint .i64 a), (0 + 1 + 1, vint .i64 b)]) [dice t k, zeroM, mb (.pv (.sl 1 (cls.map optsRow))) (.pv (.sl 4 (prs.map Pair.row))) nilA r] := by
  show xCode _ _ _ _ (.seq (.seq (.region 34 _ _) _) rest) _ _ _
  dsimp only [zeroM, mb, nilA]
  repeat' (first | (refine join_in (a := .seq (.region 34 _ _) _) (fun _ => []) (fun x : Nat × List Count => [dice t x.1, zeroM, mb (.pv (.sl 1 (cls.map optsRow))) (.pv (.sl 4 (prs.map Pair.row))) (.pv (.sl 4 (x.2.map Count.row))) r]) (fun x => x.1 ≤ t.length ∧ x.2.length ≤ 2 ∧ ∀ c ∈ x.2, CtQ cls r c) ?_) | refine o1 ?_ | refine o2 ?_ | refine k1 ?_ | refine k2 ?_ | refine k4 ?_ | refine And.intro ?_ ?_ | (change vcFun _ _ _ _ _; refine call_next 0 rfl (by assumption) (by assumption) (by omega) (by omega) ?_; intro v kq hv1 hv2 hkq) | fail)
  · refine loop_in (fun x : Nat × Nat × List Count => [(19, vint .i64 x.1)]) (fun x => [dice t x.2.1, zeroM, mb (.pv (.sl 1 (cls.map optsRow))) (.pv (.sl 4 (prs.map Pair.row))) (slP 3 4 (List.map Count.row (x.2.2))) r, obP 78 4 (List.map Count.row (x.2.2))]) (fun x => x.1 + x.2.2.length ≤ 2 ∧ x.2.1 ≤ t.length ∧ ∀ c ∈ x.2.2, CtQ cls r c) (fun x => x.1) (v.toNat, kq, []) ⟨by simp; omega, hkq, fun l hl => absurd hl List.not_mem_nil⟩ ⟨?_, ?_⟩
    · exact back [0, 1, 2, 3] rfl rfl (by repeat' (first | exact trivial | exact rfl | refine And.intro ?_ ?_)) ⟨slot_eq rfl (congrArg (vint .i64) (by show _ = ((v.toNat : Nat) : Int); omega)), (by repeat' (first | exact trivial | exact rfl | refine And.intro ?_ ?_))⟩
    rintro ⟨n, k, cts⟩ ⟨d1, d2, d3⟩
    dsimp only at d1 d2 d3
    rcases cts with _ | ⟨c0, cts⟩
    · simp only [List.length_cons, List.length_nil] at d1
      dsimp only [slP, obP, zeroM, mb, cb4, nilA, List.map, List.length_cons, List.length_nil, List.length_map]
      rcases Nat.eq_zero_or_pos n with rfl | hn
      · repeat' (first | refine o1 ?_ | refine o2 ?_ | refine k1 ?_ | refine k2 ?_ | refine k3 ?_ | refine k8 ?_ | refine And.intro ?_ ?_ | (intro h; first | exact Bool.noConfusion h | exact nz _ h | exact nl h | (simp at h; done) | (simp at h; first | (exfalso; omega) | skip) | skip) | fail)
        exact ⟨(k, []), ⟨d2, by simp, d3⟩, Ghost.trans (Ghost.shut (i := 2) (c := 2) (x := .pv (.val (.slice none 0 0))) rfl rfl rfl (by repeat' (first | trivial)) (show ¬ (2 ∈ ([] : List Nat)) by decide) (ALe.pv PLe.nil)) (back [0, 1, 2] rfl rfl (by repeat' (first | exact trivial | exact rfl | refine And.intro ?_ ?_)) (by repeat' (first | exact trivial | exact rfl | refine And.intro ?_ ?_)))⟩
      · repeat' (first | ((change vcFun _ _ _ _ _; refine call_cost 0 rfl (by assumption) (by assumption) ?_; intro cn kc hcn hkc)) | (refine join_in (a := .region 37 _ _) (fun _ => [(20, .ptr 4 4 0 0)]) (fun x : Nat × Int × Int × Int => [dice t x.1, zeroM, mb (.pv (.sl 1 (cls.map optsRow))) (.pv (.sl 4 (prs.map Pair.row))) (slP 3 4 (List.map Count.row ([]))) r, obP 78 4 (List.map Count.row ([])), cb4 x.2.1 nilA x.2.2.1 x.2.2.2]) (fun x => x.1 ≤ t.length ∧ (0 ≤ x.2.1 ∧ x.2.1 < r) ∧ (0 ≤ x.2.2.1 ∧ x.2.2.1 < 4) ∧ priceP x.2.2.2) ?_) | refine o1 ?_ | refine o2 ?_ | refine k1 ?_ | refine k2 ?_ | refine k3 ?_ | refine k4 ?_ | refine k6 ?_ | refine And.intro ?_ ?_ | (intro h; first | exact Bool.noConfusion h | exact nz _ h | exact nl h | (simp at h; done) | (simp at h; first | (exfalso; omega) | skip) | skip) | exact (by kernel_rfl : drawOk _ _ = true) | (change vcFun _ _ _ _ _; refine call_next 0 rfl (by assumption) (by assumption) (by omega) (by omega) ?_; intro v kq hv1 hv2 hkq) | fail)
        · rename_i v1 q1 a1 a2 a3
          refine ⟨(kc, v1, v, _), ⟨hkc, ⟨a1, a2⟩, ⟨hv1, hv2⟩, ?_⟩, back [0, 1, 2, 3, 4] rfl rfl ⟨rfl, rfl, rfl, rfl, trivial⟩ (by repeat' (first | exact trivial | exact rfl | refine And.intro ?_ ?_))⟩
          dsimp only
          exact pen_ok hcn
        refine ⟨?_⟩
        rintro ⟨k, ru, mo, pe⟩ ⟨m1, m2, m3, m4⟩
        dsimp only at m1 m2 m3 m4
        dsimp only [slP, obP, zeroM, mb, cb4, nilA, List.map, List.length_cons, List.length_nil, List.length_map]
        repeat' (first | (refine join_in (a := .seq (.region 38 _ _) _) (fun _ => []) (fun x : Nat × List Load => [dice t x.1, zeroM, mb (.pv (.sl 1 (cls.map optsRow))) (.pv (.sl 4 (prs.map Pair.row))) (slP 3 4 (List.map Count.row ([]))) r, obP 78 4 (List.map Count.row ([])), cb4 ru (.pv (.sl 3 (x.2.map Load.row))) mo pe]) (fun x => x.1 ≤ t.length ∧ (∀ n, n < x.2.length → loadAt ⟨cls, [], [], 0⟩ x.2 n) ∧ x.2.length ≤ 1000) ?_) | refine o1 ?_ | refine o2 ?_ | refine k1 ?_ | refine k2 ?_ | refine k4 ?_ | refine And.intro ?_ ?_ | fail)
        · refine loop_in (fun x : Nat × Nat × List Load => [(21, vint .i64 x.1)]) (fun x => [dice t x.2.1, zeroM, mb (.pv (.sl 1 (cls.map optsRow))) (.pv (.sl 4 (prs.map Pair.row))) (slP 3 4 (List.map Count.row ([]))) r, obP 78 4 (List.map Count.row ([])), cb4 ru (slP 5 3 (List.map Load.row (x.2.2))) mo pe, obP 102 3 (List.map Load.row (x.2.2))]) (fun x => x.1 ≤ cls.length ∧ x.2.1 ≤ t.length ∧ LoQ cls x.2.2 x.1 0) (fun x => cls.length - x.1) (0, k, []) ⟨Nat.zero_le _, m1, LoQ.nil⟩ ⟨?_, ?_⟩
          · exact back [0, 1, 2, 3, 4, 5] rfl rfl (by repeat' (first | exact trivial | exact rfl | refine And.intro ?_ ?_)) (by repeat' (first | exact trivial | exact rfl | refine And.intro ?_ ?_))
          rintro ⟨i, k, lds⟩ ⟨i1, i2, i3⟩
          dsimp only at i1 i2 i3
          have il := i3.len
          rcases lds with _ | ⟨l0, lds⟩
          · simp only [List.length_cons, List.length_nil] at il
            dsimp only [slP, obP, zeroM, mb, cb4, nilA, List.map, List.length_cons, List.length_nil, List.length_map]
            rcases Nat.lt_or_ge i cls.length with hi1 | hi1
            · obtain ⟨la, hla⟩ := getE hi1
              have hq1 := hcls la (List.mem_of_getElem? hla)
              have hq2 := hq1.2.1
              repeat' (first | refine o1 ?_ | refine o2 ?_ | refine k1 ?_ | refine k2 ?_ | refine k3 ?_ | refine k4 ?_ | refine k6 ?_ | refine And.intro ?_ ?_ | (intro h; first | exact Bool.noConfusion h | exact nz _ h | exact nl h | (simp at h; done) | (simp at h; first | (exfalso; omega) | skip) | skip) | refine eqv_len_map ?_ | fail)
              refine loop_in (fun x : Nat × Nat × List Load => [(22, vint .i64 x.1)]) (fun x => [dice t x.2.1, zeroM, mb (.pv (.sl 1 (cls.map optsRow))) (.pv (.sl 4 (prs.map Pair.row))) (slP 3 4 (List.map Count.row ([]))) r, obP 78 4 (List.map Count.row ([])), cb4 ru (slP 5 3 (List.map Load.row (x.2.2))) mo pe, obP 102 3 (List.map Load.row (x.2.2))]) (fun x => x.1 ≤ la.length ∧ x.2.1 ≤ t.length ∧ LoQ cls x.2.2 i x.1) (fun x => la.length - x.1) (0, k, []) ⟨Nat.zero_le _, i2, i3⟩ ⟨?_, ?_⟩
              · exact back [0, 1, 2, 3, 4, 5] rfl rfl (by repeat' (first | exact trivial | exact rfl | refine And.intro ?_ ?_)) (by repeat' (first | exact trivial | exact rfl | refine And.intro ?_ ?_))
              rintro ⟨j, k, lds⟩ ⟨j1, j2, j3⟩
              dsimp only at j1 j2 j3
              have jl := j3.len
              rcases lds with _ | ⟨l0, lds⟩
              · simp only [List.length_cons, List.length_nil] at jl
                dsimp only [slP, obP, zeroM, mb, cb4, nilA, List.map, List.length_cons, List.length_nil, List.length_map]
                rcases Nat.lt_or_ge j la.length with hj1 | hj1
                · repeat' (first | (refine idx_sl (k := i) (at_map hla) (by omega) ?_) | refine o1 ?_ | refine o2 ?_ | refine k1 ?_ | refine k2 ?_ | refine k3 ?_ | refine k4 ?_ | refine k6 ?_ | refine And.intro ?_ ?_ | refine o3 ?_ | refine o4 ?_ | (intro h; first | exact Bool.noConfusion h | exact nz _ h | exact nl h | (simp at h; done) | (simp at h; first | (exfalso; omega) | skip) | skip) | (refine (?_ : srcLen _ = rowsLen _); rfl) | exact Nat.le_of_ble_eq_true rfl | exact (by kernel_rfl : drawOk _ _ = true) | refine eqv_len_map ?_ | refine eqv_wrap (by omega) (by omega) ?_ | refine eqv_to _ (app_first rfl) (eqv_to 1 rfl ?_) | (change vcFun _ _ _ _ _; refine call_one2 0 rfl (by assumption) (by assumption) (by omega) (by omega) ?_; intro bq kq hkq) | (change vcFunD _ _ _ _ _; refine callD_next 0 rfl (by assumption) (by assumption) (by omega) (by omega) ?_; intro v kq hv1 hv2 hkq) | fail)
                  all_goals first
                    | (exfalso; omega)
                    | skip
                  · exact ⟨(j + 1, kq, [Load.mk i j (1 + v)]), ⟨by show j + 1 ≤ _; omega, hkq, j3.app hla hj1 (by omega) (by omega)⟩, (by show _ - (j + 1) < _; omega), back [0, 1, 2, 3, 4, 7] rfl rfl (by repeat' (first | exact trivial | exact rfl | refine And.intro ?_ ?_)) (by repeat' (first | exact trivial | exact rfl | refine And.intro ?_ ?_))⟩
                  · exact ⟨(j + 1, kq, []), ⟨by show j + 1 ≤ _; omega, hkq, j3.skip⟩, (by show _ - (j + 1) < _; omega), back [0, 1, 2, 3, 4, 5] rfl rfl (by repeat' (first | exact trivial | exact rfl | refine And.intro ?_ ?_)) (by repeat' (first | exact trivial | exact rfl | refine And.intro ?_ ?_))⟩
                · repeat' (first | (refine idx_sl (k := i) (at_map hla) (by omega) ?_) | refine o1 ?_ | refine o2 ?_ | refine k1 ?_ | refine k2 ?_ | refine k3 ?_ | refine k8 ?_ | refine And.intro ?_ ?_ | (intro h; first | exact Bool.noConfusion h | exact nz _ h | exact nl h | (simp at h; done) | (simp at h; first | (exfalso; omega) | skip) | skip) | refine eqv_len_map ?_ | refine eqv_wrap (by omega) (by omega) ?_ | fail)
                  exact ⟨(i + 1, k, []), ⟨by show i + 1 ≤ _; omega, j2, j3.toI (by omega)⟩, (by show _ - (i + 1) < _; omega), back [0, 1, 2, 3, 4, 5] rfl rfl (by repeat' (first | exact trivial | exact rfl | refine And.intro ?_ ?_)) (by repeat' (first | exact trivial | exact rfl | refine And.intro ?_ ?_))⟩
              · simp only [List.length_cons, List.length_nil] at jl
                dsimp only [slP, obP, zeroM, mb, cb4, nilA, List.map, List.length_cons, List.length_nil, List.length_map]
                rcases Nat.lt_or_ge j la.length with hj1 | hj1
                · repeat' (first | (refine idx_sl (k := i) (at_map hla) (by omega) ?_) | (refine app_consm (f := Load.row) (Load.mk i j (1 + v)) rfl ?_) | refine o1 ?_ | refine o2 ?_ | refine k1 ?_ | refine k2 ?_ | refine k3 ?_ | refine k4 ?_ | refine k6 ?_ | refine And.intro ?_ ?_ | refine o3 ?_ | refine o4 ?_ | (intro h; first | exact Bool.noConfusion h | exact nz _ h | exact nl h | (simp at h; done) | (simp at h; first | (exfalso; omega) | skip) | skip) | (refine (?_ : srcLen _ = rowsLen _); rfl) | exact (by kernel_rfl : drawOk _ _ = true) | refine eqv_len_map ?_ | refine eqv_wrap (by omega) (by omega) ?_ | (refine (?_ : _ ≤ 140737488355328); simp [rowsLen] <;> omega) | (refine (?_ : _ ≤ 9223372036854775807); simp [rowsLen] <;> omega) | (refine (?_ : _ = rowsLen _); simp [rowsLen] <;> omega) | (change vcFun _ _ _ _ _; refine call_one2 0 rfl (by assumption) (by assumption) (by omega) (by omega) ?_; intro bq kq hkq) | (change vcFunD _ _ _ _ _; refine callD_next 0 rfl (by assumption) (by assumption) (by omega) (by omega) ?_; intro v kq hv1 hv2 hkq) | fail)
                  all_goals first
                    | (exfalso; omega)
                    | skip
                  · exact ⟨(j + 1, kq, l0 :: (lds ++ [Load.mk i j (1 + v)])), ⟨by show j + 1 ≤ _; omega, hkq, j3.app hla hj1 (by omega) (by omega)⟩, (by show _ - (j + 1) < _; omega), back [0, 1, 2, 3, 4, 7] rfl rfl (by repeat' (first | exact trivial | exact rfl | refine And.intro ?_ ?_)) (by repeat' (first | exact trivial | exact rfl | refine And.intro ?_ ?_))⟩
                  · exact ⟨(j + 1, kq, l0 :: lds), ⟨by show j + 1 ≤ _; omega, hkq, j3.skip⟩, (by show _ - (j + 1) < _; omega), back [0, 1, 2, 3, 4, 5] rfl rfl (by repeat' (first | exact trivial | exact rfl | refine And.intro ?_ ?_)) (by repeat' (first | exact trivial | exact rfl | refine And.intro ?_ ?_))⟩
                · repeat' (first | (refine idx_sl (k := i) (at_map hla) (by omega) ?_) | refine o1 ?_ | refine o2 ?_ | refine k1 ?_ | refine k2 ?_ | refine k3 ?_ | refine k8 ?_ | refine And.intro ?_ ?_ | (intro h; first | exact Bool.noConfusion h | exact nz _ h | exact nl h | (simp at h; done) | (simp at h; first | (exfalso; omega) | skip) | skip) | refine eqv_len_map ?_ | refine eqv_wrap (by omega) (by omega) ?_ | fail)
                  exact ⟨(i + 1, k, l0 :: lds), ⟨by show i + 1 ≤ _; omega, j2, j3.toI (by omega)⟩, (by show _ - (i + 1) < _; omega), back [0, 1, 2, 3, 4, 5] rfl rfl (by repeat' (first | exact trivial | exact rfl | refine And.intro ?_ ?_)) (by repeat' (first | exact trivial | exact rfl | refine And.intro ?_ ?_))⟩
            · repeat' (first | refine o1 ?_ | refine o2 ?_ | refine k1 ?_ | refine k2 ?_ | refine k3 ?_ | refine k8 ?_ | refine And.intro ?_ ?_ | (intro h; first | exact Bool.noConfusion h | exact nz _ h | exact nl h | (simp at h; done) | (simp at h; first | (exfalso; omega) | skip) | skip) | refine eqv_len_map ?_ | fail)
              exact ⟨(k, []), ⟨i2, i3.at_, by simp⟩, Ghost.trans (Ghost.shut (i := 4) (c := 1) (x := .pv (.val (.slice none 0 0))) rfl rfl rfl (by repeat' (first | trivial)) (show ¬ (4 ∈ ([] : List Nat)) by decide) (ALe.pv PLe.nil)) (back [0, 1, 2, 3, 4] rfl rfl (by repeat' (first | exact trivial | exact rfl | refine And.intro ?_ ?_)) (by repeat' (first | exact trivial | exact rfl | refine And.intro ?_ ?_)))⟩
          · simp only [List.length_cons, List.length_nil] at il
            dsimp only [slP, obP, zeroM, mb, cb4, nilA, List.map, List.length_cons, List.length_nil, List.length_map]
            rcases Nat.lt_or_ge i cls.length with hi1 | hi1
            · obtain ⟨la, hla⟩ := getE hi1
              have hq1 := hcls la (List.mem_of_getElem? hla)
              have hq2 := hq1.2.1
              repeat' (first | refine o1 ?_ | refine o2 ?_ | refine k1 ?_ | refine k2 ?_ | refine k3 ?_ | refine k4 ?_ | refine k6 ?_ | refine And.intro ?_ ?_ | (intro h; first | exact Bool.noConfusion h | exact nz _ h | exact nl h | (simp at h; done) | (simp at h; first | (exfalso; omega) | skip) | skip) | refine eqv_len_map ?_ | fail)
              refine loop_in (fun x : Nat × Nat × List Load => [(22, vint .i64 x.1)]) (fun x => [dice t x.2.1, zeroM, mb (.pv (.sl 1 (cls.map optsRow))) (.pv (.sl 4 (prs.map Pair.row))) (slP 3 4 (List.map Count.row ([]))) r, obP 78 4 (List.map Count.row ([])), cb4 ru (slP 5 3 (List.map Load.row (x.2.2))) mo pe, obP 102 3 (List.map Load.row (x.2.2))]) (fun x => x.1 ≤ la.length ∧ x.2.1 ≤ t.length ∧ LoQ cls x.2.2 i x.1) (fun x => la.length - x.1) (0, k, l0 :: lds) ⟨Nat.zero_le _, i2, i3⟩ ⟨?_, ?_⟩
              · exact back [0, 1, 2, 3, 4, 5] rfl rfl (by repeat' (first | exact trivial | exact rfl | refine And.intro ?_ ?_)) (by repeat' (first | exact trivial | exact rfl | refine And.intro ?_ ?_))
              rintro ⟨j, k, lds⟩ ⟨j1, j2, j3⟩
              dsimp only at j1 j2 j3
              have jl := j3.len
              rcases lds with _ | ⟨l0, lds⟩
              · simp only [List.length_cons, List.length_nil] at jl
                dsimp only [slP, obP, zeroM, mb, cb4, nilA, List.map, List.length_cons, List.length_nil, List.length_map]
                rcases Nat.lt_or_ge j la.length with hj1 | hj1
                · repeat' (first | (refine idx_sl (k := i) (at_map hla) (by omega) ?_) | refine o1 ?_ | refine o2 ?_ | refine k1 ?_ | refine k2 ?_ | refine k3 ?_ | refine k4 ?_ | refine k6 ?_ | refine And.intro ?_ ?_ | refine o3 ?_ | refine o4 ?_ | (intro h; first | exact Bool.noConfusion h | exact nz _ h | exact nl h | (simp at h; done) | (simp at h; first | (exfalso; omega) | skip) | skip) | (refine (?_ : srcLen _ = rowsLen _); rfl) | exact Nat.le_of_ble_eq_true rfl | exact (by kernel_rfl : drawOk _ _ = true) | refine eqv_len_map ?_ | refine eqv_wrap (by omega) (by omega) ?_ | refine eqv_to _ (app_first rfl) (eqv_to 1 rfl ?_) | (change vcFun _ _ _ _ _; refine call_one2 0 rfl (by assumption) (by assumption) (by omega) (by omega) ?_; intro bq kq hkq) | (change vcFunD _ _ _ _ _; refine callD_next 0 rfl (by assumption) (by assumption) (by omega) (by omega) ?_; intro v kq hv1 hv2 hkq) | fail)
                  all_goals first
                    | (exfalso; omega)
                    | skip
                  · exact ⟨(j + 1, kq, [Load.mk i j (1 + v)]), ⟨by show j + 1 ≤ _; omega, hkq, j3.app hla hj1 (by omega) (by omega)⟩, (by show _ - (j + 1) < _; omega), back [0, 1, 2, 3, 4, 7] rfl rfl (by repeat' (first | exact trivial | exact rfl | refine And.intro ?_ ?_)) (by repeat' (first | exact trivial | exact rfl | refine And.intro ?_ ?_))⟩
                  · exact ⟨(j + 1, kq, []), ⟨by show j + 1 ≤ _; omega, hkq, j3.skip⟩, (by show _ - (j + 1) < _; omega), back [0, 1, 2, 3, 4, 5] rfl rfl (by repeat' (first | exact trivial | exact rfl | refine And.intro ?_ ?_)) (by repeat' (first | exact trivial | exact rfl | refine And.intro ?_ ?_))⟩
                · repeat' (first | (refine idx_sl (k := i) (at_map hla) (by omega) ?_) | refine o1 ?_ | refine o2 ?_ | refine k1 ?_ | refine k2 ?_ | refine k3 ?_ | refine k8 ?_ | refine And.intro ?_ ?_ | (intro h; first | exact Bool.noConfusion h | exact nz _ h | exact nl h | (simp at h; done) | (simp at h; first | (exfalso; omega) | skip) | skip) | refine eqv_len_map ?_ | refine eqv_wrap (by omega) (by omega) ?_ | fail)
                  exact ⟨(i + 1, k, []), ⟨by show i + 1 ≤ _; omega, j2, j3.toI (by omega)⟩, (by show _ - (i + 1) < _; omega), back [0, 1, 2, 3, 4, 5] rfl rfl (by repeat' (first | exact trivial | exact rfl | refine And.intro ?_ ?_)) (by repeat' (first | exact trivial | exact rfl | refine And.intro ?_ ?_))⟩
              · simp only [List.length_cons, List.length_nil] at jl
                dsimp only [slP, obP, zeroM, mb, cb4, nilA, List.map, List.length_cons, List.length_nil, List.length_map]
                rcases Nat.lt_or_ge j la.length with hj1 | hj1
                · repeat' (first | (refine idx_sl (k := i) (at_map hla) (by omega) ?_) | (refine app_consm (f := Load.row) (Load.mk i j (1 + v)) rfl ?_) | refine o1 ?_ | refine o2 ?_ | refine k1 ?_ | refine k2 ?_ | refine k3 ?_ | refine k4 ?_ | refine k6 ?_ | refine And.intro ?_ ?_ | refine o3 ?_ | refine o4 ?_ | (intro h; first | exact Bool.noConfusion h | exact nz _ h | exact nl h | (simp at h; done) | (simp at h; first | (exfalso; omega) | skip) | skip) | (refine (?_ : srcLen _ = rowsLen _); rfl) | exact (by kernel_rfl : drawOk _ _ = true) | refine eqv_len_map ?_ | refine eqv_wrap (by omega) (by omega) ?_ | (refine (?_ : _ ≤ 140737488355328); simp [rowsLen] <;> omega) | (refine (?_ : _ ≤ 9223372036854775807); simp [rowsLen] <;> omega) | (refine (?_ : _ = rowsLen _); simp [rowsLen] <;> omega) | (change vcFun _ _ _ _ _; refine call_one2 0 rfl (by assumption) (by assumption) (by omega) (by omega) ?_; intro bq kq hkq) | (change vcFunD _ _ _ _ _; refine callD_next 0 rfl (by assumption) (by assumption) (by omega) (by omega) ?_; intro v kq hv1 hv2 hkq) | fail)
                  all_goals first
                    | (exfalso; omega)
                    | skip
                  · exact ⟨(j + 1, kq, l0 :: (lds ++ [Load.mk i j (1 + v)])), ⟨by show j + 1 ≤ _; omega, hkq, j3.app hla hj1 (by omega) (by omega)⟩, (by show _ - (j + 1) < _; omega), back [0, 1, 2, 3, 4, 7] rfl rfl (by repeat' (first | exact trivial | exact rfl | refine And.intro ?_ ?_)) (by repeat' (first | exact trivial | exact rfl | refine And.intro ?_ ?_))⟩
                  · exact ⟨(j + 1, kq, l0 :: lds), ⟨by show j + 1 ≤ _; omega, hkq, j3.skip⟩, (by show _ - (j + 1) < _; omega), back [0, 1, 2, 3, 4, 5] rfl rfl (by repeat' (first | exact trivial | exact rfl | refine And.intro ?_ ?_)) (by repeat' (first | exact trivial | exact rfl | refine And.intro ?_ ?_))⟩
                · repeat' (first | (refine idx_sl (k := i) (at_map hla) (by omega) ?_) | refine o1 ?_ | refine o2 ?_ | refine k1 ?_ | refine k2 ?_ | refine k3 ?_ | refine k8 ?_ | refine And.intro ?_ ?_ | (intro h; first | exact Bool.noConfusion h | exact nz _ h | exact nl h | (simp at h; done) | (simp at h; first | (exfalso; omega) | skip) | skip) | refine eqv_len_map ?_ | refine eqv_wrap (by omega) (by omega) ?_ | fail)
                  exact ⟨(i + 1, k, l0 :: lds), ⟨by show i + 1 ≤ _; omega, j2, j3.toI (by omega)⟩, (by show _ - (i + 1) < _; omega), back [0, 1, 2, 3, 4, 5] rfl rfl (by repeat' (first | exact trivial | exact rfl | refine And.intro ?_ ?_)) (by repeat' (first | exact trivial | exact rfl | refine And.intro ?_ ?_))⟩
            · repeat' (first | refine o1 ?_ | refine o2 ?_ | refine k1 ?_ | refine k2 ?_ | refine k3 ?_ | refine k8 ?_ | refine And.intro ?_ ?_ | (intro h; first | exact Bool.noConfusion h | exact nz _ h | exact nl h | (simp at h; done) | (simp at h; first | (exfalso; omega) | skip) | skip) | refine eqv_len_map ?_ | fail)
              exact ⟨(k, l0 :: lds), ⟨i2, i3.at_, by simp only [List.length_cons]; omega⟩, Ghost.trans (Ghost.shut (i := 4) (c := 1) (x := .ms 5 3 0 ((List.map Load.row lds).length + 1)) rfl rfl rfl (by repeat' (first | (show 0 + _ ≤ List.length _; simp))) (show ¬ (4 ∈ ([5] : List Nat)) by decide) (ALe.pv (whole_le (f := Load.row) (l := l0 :: lds) (by simp)))) (back [0, 1, 2, 3, 4] rfl rfl (by repeat' (first | exact trivial | exact rfl | refine And.intro ?_ ?_)) (by repeat' (first | exact trivial | exact rfl | refine And.intro ?_ ?_)))⟩
        refine ⟨?_⟩
        rintro ⟨k, lds⟩ ⟨f1, f2, f3⟩
        dsimp only at f1 f2 f3
        dsimp only [slP, obP, zeroM, mb, cb4, nilA, List.map, List.length_cons, List.length_nil, List.length_map]
        repeat' (first | refine o1 ?_ | refine o2 ?_ | refine k2 ?_ | refine And.intro ?_ ?_ | (intro h; first | exact Bool.noConfusion h | exact nz _ h | exact nl h | (simp at h; done) | (simp at h; first | (exfalso; omega) | skip) | skip) | (refine (?_ : srcLen _ = rowsLen _); rfl) | exact Nat.le_of_ble_eq_true rfl | refine eqv_wrap (by omega) (by omega) ?_ | refine eqv_to _ (app_first rfl) (eqv_to 1 rfl ?_) | fail)
        exact ⟨(n - 1, k, [Count.mk ru lds mo pe]), ⟨by show n - 1 + List.length _ ≤ 2; simp; try omega, f1, all_app (l := []) d3 (show CtQ cls r (Count.mk ru lds mo pe) from ⟨⟨m2, m3.1, by have := m3.2; dsimp only; omega, m4, f2⟩, f3⟩)⟩, (by show n - 1 < n; omega), back [0, 1, 2, 6] rfl rfl (by repeat' (first | exact trivial | exact rfl | refine And.intro ?_ ?_)) ⟨slot_eq rfl (congrArg (vint .i64) (by show _ = ((n - 1 : Nat) : Int); omega)), (by repeat' (first | exact trivial | exact rfl | refine And.intro ?_ ?_))⟩⟩
    · simp only [List.length_cons, List.length_nil] at d1
      dsimp only [slP, obP, zeroM, mb, cb4, nilA, List.map, List.length_cons, List.length_nil, List.length_map]
      rcases Nat.eq_zero_or_pos n with rfl | hn
      · repeat' (first | refine o1 ?_ | refine o2 ?_ | refine k1 ?_ | refine k2 ?_ | refine k3 ?_ | refine k8 ?_ | refine And.intro ?_ ?_ | (intro h; first | exact Bool.noConfusion h | exact nz _ h | exact nl h | (simp at h; done) | (simp at h; first | (exfalso; omega) | skip) | skip) | fail)
        exact ⟨(k, c0 :: cts), ⟨d2, by simp only [List.length_cons]; omega, d3⟩, Ghost.trans (Ghost.shut (i := 2) (c := 2) (x := .ms 3 4 0 ((List.map Count.row cts).length + 1)) rfl rfl rfl (by repeat' (first | (show 0 + _ ≤ List.length _; simp))) (show ¬ (2 ∈ ([3] : List Nat)) by decide) (ALe.pv (whole_le (f := Count.row) (l := c0 :: cts) (by simp)))) (back [0, 1, 2] rfl rfl (by repeat' (first | exact trivial | exact rfl | refine And.intro ?_ ?_)) (by repeat' (first | exact trivial | exact rfl | refine And.intro ?_ ?_)))⟩
      · repeat' (first | ((change vcFun _ _ _ _ _; refine call_cost 0 rfl (by assumption) (by assumption) ?_; intro cn kc hcn hkc)) | (refine join_in (a := .region 37 _ _) (fun _ => [(20, .ptr 4 4 0 0)]) (fun x : Nat × Int × Int × Int => [dice t x.1, zeroM, mb (.pv (.sl 1 (cls.map optsRow))) (.pv (.sl 4 (prs.map Pair.row))) (slP 3 4 (List.map Count.row (c0 :: cts))) r, obP 78 4 (List.map Count.row (c0 :: cts)), cb4 x.2.1 nilA x.2.2.1 x.2.2.2]) (fun x => x.1 ≤ t.length ∧ (0 ≤ x.2.1 ∧ x.2.1 < r) ∧ (0 ≤ x.2.2.1 ∧ x.2.2.1 < 4) ∧ priceP x.2.2.2) ?_) | refine o1 ?_ | refine o2 ?_ | refine k1 ?_ | refine k2 ?_ | refine k3 ?_ | refine k4 ?_ | refine k6 ?_ | refine And.intro ?_ ?_ | (intro h; first | exact Bool.noConfusion h | exact nz _ h | exact nl h | (simp at h; done) | (simp at h; first | (exfalso; omega) | skip) | skip) | exact (by kernel_rfl : drawOk _ _ = true) | (change vcFun _ _ _ _ _; refine call_next 0 rfl (by assumption) (by assumption) (by omega) (by omega) ?_; intro v kq hv1 hv2 hkq) | fail)
        · rename_i v1 q1 a1 a2 a3
          refine ⟨(kc, v1, v, _), ⟨hkc, ⟨a1, a2⟩, ⟨hv1, hv2⟩, ?_⟩, back [0, 1, 2, 3, 4] rfl rfl ⟨rfl, rfl, rfl, rfl, rfl, trivial⟩ (by repeat' (first | exact trivial | exact rfl | refine And.intro ?_ ?_))⟩
          dsimp only
          exact pen_ok hcn
        refine ⟨?_⟩
        rintro ⟨k, ru, mo, pe⟩ ⟨m1, m2, m3, m4⟩
        dsimp only at m1 m2 m3 m4
        dsimp only [slP, obP, zeroM, mb, cb4, nilA, List.map, List.length_cons, List.length_nil, List.length_map]
        repeat' (first | (refine join_in (a := .seq (.region 38 _ _) _) (fun _ => []) (fun x : Nat × List Load => [dice t x.1, zeroM, mb (.pv (.sl 1 (cls.map optsRow))) (.pv (.sl 4 (prs.map Pair.row))) (slP 3 4 (List.map Count.row (c0 :: cts))) r, obP 78 4 (List.map Count.row (c0 :: cts)), cb4 ru (.pv (.sl 3 (x.2.map Load.row))) mo pe]) (fun x => x.1 ≤ t.length ∧ (∀ n, n < x.2.length → loadAt ⟨cls, [], [], 0⟩ x.2 n) ∧ x.2.length ≤ 1000) ?_) | refine o1 ?_ | refine o2 ?_ | refine k1 ?_ | refine k2 ?_ | refine k4 ?_ | refine And.intro ?_ ?_ | fail)
        · refine loop_in (fun x : Nat × Nat × List Load => [(21, vint .i64 x.1)]) (fun x => [dice t x.2.1, zeroM, mb (.pv (.sl 1 (cls.map optsRow))) (.pv (.sl 4 (prs.map Pair.row))) (slP 3 4 (List.map Count.row (c0 :: cts))) r, obP 78 4 (List.map Count.row (c0 :: cts)), cb4 ru (slP 5 3 (List.map Load.row (x.2.2))) mo pe, obP 102 3 (List.map Load.row (x.2.2))]) (fun x => x.1 ≤ cls.length ∧ x.2.1 ≤ t.length ∧ LoQ cls x.2.2 x.1 0) (fun x => cls.length - x.1) (0, k, []) ⟨Nat.zero_le _, m1, LoQ.nil⟩ ⟨?_, ?_⟩
          · exact back [0, 1, 2, 3, 4, 5] rfl rfl (by repeat' (first | exact trivial | exact rfl | refine And.intro ?_ ?_)) (by repeat' (first | exact trivial | exact rfl | refine And.intro ?_ ?_))
          rintro ⟨i, k, lds⟩ ⟨i1, i2, i3⟩
          dsimp only at i1 i2 i3
          have il := i3.len
          rcases lds with _ | ⟨l0, lds⟩
          · simp only [List.length_cons, List.length_nil] at il
            dsimp only [slP, obP, zeroM, mb, cb4, nilA, List.map, List.length_cons, List.length_nil, List.length_map]
            rcases Nat.lt_or_ge i cls.length with hi1 | hi1
            · obtain ⟨la, hla⟩ := getE hi1
              have hq1 := hcls la (List.mem_of_getElem? hla)
              have hq2 := hq1.2.1
              repeat' (first | refine o1 ?_ | refine o2 ?_ | refine k1 ?_ | refine k2 ?_ | refine k3 ?_ | refine k4 ?_ | refine k6 ?_ | refine And.intro ?_ ?_ | (intro h; first | exact Bool.noConfusion h | exact nz _ h | exact nl h | (simp at h; done) | (simp at h; first | (exfalso; omega) | skip) | skip) | refine eqv_len_map ?_ | fail)
              refine loop_in (fun x : Nat × Nat × List Load => [(22, vint .i64 x.1)]) (fun x => [dice t x.2.1, zeroM, mb (.pv (.sl 1 (cls.map optsRow))) (.pv (.sl 4 (prs.map Pair.row))) (slP 3 4 (List.map Count.row (c0 :: cts))) r, obP 78 4 (List.map Count.row (c0 :: cts)), cb4 ru (slP 5 3 (List.map Load.row (x.2.2))) mo pe, obP 102 3 (List.map Load.row (x.2.2))]) (fun x => x.1 ≤ la.length ∧ x.2.1 ≤ t.length ∧ LoQ cls x.2.2 i x.1) (fun x => la.length - x.1) (0, k, []) ⟨Nat.zero_le _, i2, i3⟩ ⟨?_, ?_⟩
              · exact back [0, 1, 2, 3, 4, 5] rfl rfl (by repeat' (first | exact trivial | exact rfl | refine And.intro ?_ ?_)) (by repeat' (first | exact trivial | exact rfl | refine And.intro ?_ ?_))
              rintro ⟨j, k, lds⟩ ⟨j1, j2, j3⟩
              dsimp only at j1 j2 j3
              have jl := j3.len
              rcases lds with _ | ⟨l0, lds⟩
              · simp only [List.length_cons, List.length_nil] at jl
                dsimp only [slP, obP, zeroM, mb, cb4, nilA, List.map, List.length_cons, List.length_nil, List.length_map]
                rcases Nat.lt_or_ge j la.length with hj1 | hj1
                · repeat' (first | (refine idx_sl (k := i) (at_map hla) (by omega) ?_) | refine o1 ?_ | refine o2 ?_ | refine k1 ?_ | refine k2 ?_ | refine k3 ?_ | refine k4 ?_ | refine k6 ?_ | refine And.intro ?_ ?_ | refine o3 ?_ | refine o4 ?_ | (intro h; first | exact Bool.noConfusion h | exact nz _ h | exact nl h | (simp at h; done) | (simp at h; first | (exfalso; omega) | skip) | skip) | (refine (?_ : srcLen _ = rowsLen _); rfl) | exact Nat.le_of_ble_eq_true rfl | exact (by kernel_rfl : drawOk _ _ = true) | refine eqv_len_map ?_ | refine eqv_wrap (by omega) (by omega) ?_ | refine eqv_to _ (app_first rfl) (eqv_to 1 rfl ?_) | (change vcFun _ _ _ _ _; refine call_one2 0 rfl (by assumption) (by assumption) (by omega) (by omega) ?_; intro bq kq hkq) | (change vcFunD _ _ _ _ _; refine callD_next 0 rfl (by assumption) (by assumption) (by omega) (by omega) ?_; intro v kq hv1 hv2 hkq) | fail)
                  all_goals first
                    | (exfalso; omega)
                    | skip
                  · exact ⟨(j + 1, kq, [Load.mk i j (1 + v)]), ⟨by show j + 1 ≤ _; omega, hkq, j3.app hla hj1 (by omega) (by omega)⟩, (by show _ - (j + 1) < _; omega), back [0, 1, 2, 3, 4, 7] rfl rfl (by repeat' (first | exact trivial | exact rfl | refine And.intro ?_ ?_)) (by repeat' (first | exact trivial | exact rfl | refine And.intro ?_ ?_))⟩
                  · exact ⟨(j + 1, kq, []), ⟨by show j + 1 ≤ _; omega, hkq, j3.skip⟩, (by show _ - (j + 1) < _; omega), back [0, 1, 2, 3, 4, 5] rfl rfl (by repeat' (first | exact trivial | exact rfl | refine And.intro ?_ ?_)) (by repeat' (first | exact trivial | exact rfl | refine And.intro ?_ ?_))⟩
                · repeat' (first | (refine idx_sl (k := i) (at_map hla) (by omega) ?_) | refine o1 ?_ | refine o2 ?_ | refine k1 ?_ | refine k2 ?_ | refine k3 ?_ | refine k8 ?_ | refine And.intro ?_ ?_ | (intro h; first | exact Bool.noConfusion h | exact nz _ h | exact nl h | (simp at h; done) | (simp at h; first | (exfalso; omega) | skip) | skip) | refine eqv_len_map ?_ | refine eqv_wrap (by omega) (by omega) ?_ | fail)
                  exact ⟨(i + 1, k, []), ⟨by show i + 1 ≤ _; omega, j2, j3.toI (by omega)⟩, (by show _ - (i + 1) < _; omega), back [0, 1, 2, 3, 4, 5] rfl rfl (by repeat' (first | exact trivial | exact rfl | refine And.intro ?_ ?_)) (by repeat' (first | exact trivial | exact rfl | refine And.intro ?_ ?_))⟩
              · simp only [List.length_cons, List.length_nil] at jl
                dsimp only [slP, obP, zeroM, mb, cb4, nilA, List.map, List.length_cons, List.length_nil, List.length_map]
                rcases Nat.lt_or_ge j la.length with hj1 | hj1
                · repeat' (first | (refine idx_sl (k := i) (at_map hla) (by omega) ?_) | (refine app_consm (f := Load.row) (Load.mk i j (1 + v)) rfl ?_) | refine o1 ?_ | refine o2 ?_ | refine k1 ?_ | refine k2 ?_ | refine k3 ?_ | refine k4 ?_ | refine k6 ?_ | refine And.intro ?_ ?_ | refine o3 ?_ | refine o4 ?_ | (intro h; first | exact Bool.noConfusion h | exact nz _ h | exact nl h | (simp at h; done) | (simp at h; first | (exfalso; omega) | skip) | skip) | (refine (?_ : srcLen _ = rowsLen _); rfl) | exact (by kernel_rfl : drawOk _ _ = true) | refine eqv_len_map ?_ | refine eqv_wrap (by omega) (by omega) ?_ | (refine (?_ : _ ≤ 140737488355328); simp [rowsLen] <;> omega) | (refine (?_ : _ ≤ 9223372036854775807); simp [rowsLen] <;> omega) | (refine (?_ : _ = rowsLen _); simp [rowsLen] <;> omega) | (change vcFun _ _ _ _ _; refine call_one2 0 rfl (by assumption) (by assumption) (by omega) (by omega) ?_; intro bq kq hkq) | (change vcFunD _ _ _ _ _; refine callD_next 0 rfl (by assumption) (by assumption) (by omega) (by omega) ?_; intro v kq hv1 hv2 hkq) | fail)
                  all_goals first
                    | (exfalso; omega)
                    | skip
                  · exact ⟨(j + 1, kq, l0 :: (lds ++ [Load.mk i j (1 + v)])), ⟨by show j + 1 ≤ _; omega, hkq, j3.app hla hj1 (by omega) (by omega)⟩, (by show _ - (j + 1) < _; omega), back [0, 1, 2, 3, 4, 7] rfl rfl (by repeat' (first | exact trivial | exact rfl | refine And.intro ?_ ?_)) (by repeat' (first | exact trivial | exact rfl | refine And.intro ?_ ?_))⟩
                  · exact ⟨(j + 1, kq, l0 :: lds), ⟨by show j + 1 ≤ _; omega, hkq, j3.skip⟩, (by show _ - (j + 1) < _; omega), back [0, 1, 2, 3, 4, 5] rfl rfl (by repeat' (first | exact trivial | exact rfl | refine And.intro ?_ ?_)) (by repeat' (first | exact trivial | exact rfl | refine And.intro ?_ ?_))⟩
                · repeat' (first | (refine idx_sl (k := i) (at_map hla) (by omega) ?_) | refine o1 ?_ | refine o2 ?_ | refine k1 ?_ | refine k2 ?_ | refine k3 ?_ | refine k8 ?_ | refine And.intro ?_ ?_ | (intro h; first | exact Bool.noConfusion h | exact nz _ h | exact nl h | (simp at h; done) | (simp at h; first | (exfalso; omega) | skip) | skip) | refine eqv_len_map ?_ | refine eqv_wrap (by omega) (by omega) ?_ | fail)
                  exact ⟨(i + 1, k, l0 :: lds), ⟨by show i + 1 ≤ _; omega, j2, j3.toI (by omega)⟩, (by show _ - (i + 1) < _; omega), back [0, 1, 2, 3, 4, 5] rfl rfl (by repeat' (first | exact trivial | exact rfl | refine And.intro ?_ ?_)) (by repeat' (first | exact trivial | exact rfl | refine And.intro ?_ ?_))⟩
            · repeat' (first | refine o1 ?_ | refine o2 ?_ | refine k1 ?_ | refine k2 ?_ | refine k3 ?_ | refine k8 ?_ | refine And.intro ?_ ?_ | (intro h; first | exact Bool.noConfusion h | exact nz _ h | exact nl h | (simp at h; done) | (simp at h; first | (exfalso; omega) | skip) | skip) | refine eqv_len_map ?_ | fail)
              exact ⟨(k, []), ⟨i2, i3.at_, by simp⟩, Ghost.trans (Ghost.shut (i := 4) (c := 1) (x := .pv (.val (.slice none 0 0))) rfl rfl rfl (by repeat' (first | trivial)) (show ¬ (4 ∈ ([] : List Nat)) by decide) (ALe.pv PLe.nil)) (back [0, 1, 2, 3, 4] rfl rfl (by repeat' (first | exact trivial | exact rfl | refine And.intro ?_ ?_)) (by repeat' (first | exact trivial | exact rfl | refine And.intro ?_ ?_)))⟩
          · simp only [List.length_cons, List.length_nil] at il
            dsimp only [slP, obP, zeroM, mb, cb4, nilA, List.map, List.length_cons, List.length_nil, List.length_map]
            rcases Nat.lt_or_ge i cls.length with hi1 | hi1
            · obtain ⟨la, hla⟩ := getE hi1
              have hq1 := hcls la (List.mem_of_getElem? hla)
              have hq2 := hq1.2.1
              repeat' (first | refine o1 ?_ | refine o2 ?_ | refine k1 ?_ | refine k2 ?_ | refine k3 ?_ | refine k4 ?_ | refine k6 ?_ | refine And.intro ?_ ?_ | (intro h; first | exact Bool.noConfusion h | exact nz _ h | exact nl h | (simp at h; done) | (simp at h; first | (exfalso; omega) | skip) | skip) | refine eqv_len_map ?_ | fail)
              refine loop_in (fun x : Nat × Nat × List Load => [(22, vint .i64 x.1)]) (fun x => [dice t x.2.1, zeroM, mb (.pv (.sl 1 (cls.map optsRow))) (.pv (.sl 4 (prs.map Pair.row))) (slP 3 4 (List.map Count.row (c0 :: cts))) r, obP 78 4 (List.map Count.row (c0 :: cts)), cb4 ru (slP 5 3 (List.map Load.row (x.2.2))) mo pe, obP 102 3 (List.map Load.row (x.2.2))]) (fun x => x.1 ≤ la.length ∧ x.2.1 ≤ t.length ∧ LoQ cls x.2.2 i x.1) (fun x => la.length - x.1) (0, k, l0 :: lds) ⟨Nat.zero_le _, i2, i3⟩ ⟨?_, ?_⟩
              · exact back [0, 1, 2, 3, 4, 5] rfl rfl (by repeat' (first | exact trivial | exact rfl | refine And.intro ?_ ?_)) (by repeat' (first | exact trivial | exact rfl | refine And.intro ?_ ?_))
              rintro ⟨j, k, lds⟩ ⟨j1, j2, j3⟩
              dsimp only at j1 j2 j3
              have jl := j3.len
              rcases lds with _ | ⟨l0, lds⟩
              · simp only [List.length_cons, List.length_nil] at jl
                dsimp only [slP, obP, zeroM, mb, cb4, nilA, List.map, List.length_cons, List.length_nil, List.length_map]
                rcases Nat.lt_or_ge j la.length with hj1 | hj1
                · repeat' (first | (refine idx_sl (k := i) (at_map hla) (by omega) ?_) | refine o1 ?_ | refine o2 ?_ | refine k1 ?_ | refine k2 ?_ | refine k3 ?_ | refine k4 ?_ | refine k6 ?_ | refine And.intro ?_ ?_ | refine o3 ?_ | refine o4 ?_ | (intro h; first | exact Bool.noConfusion h | exact nz _ h | exact nl h | (simp at h; done) | (simp at h; first | (exfalso; omega) | skip) | skip) | (refine (?_ : srcLen _ = rowsLen _); rfl) | exact Nat.le_of_ble_eq_true rfl | exact (by kernel_rfl : drawOk _ _ = true) | refine eqv_len_map ?_ | refine eqv_wrap (by omega) (by omega) ?_ | refine eqv_to _ (app_first rfl) (eqv_to 1 rfl ?_) | (change vcFun _ _ _ _ _; refine call_one2 0 rfl (by assumption) (by assumption) (by omega) (by omega) ?_; intro bq kq hkq) | (change vcFunD _ _ _ _ _; refine callD_next 0 rfl (by assumption) (by assumption) (by omega) (by omega) ?_; intro v kq hv1 hv2 hkq) | fail)
                  all_goals first
                    | (exfalso; omega)
                    | skip
                  · exact ⟨(j + 1, kq, [Load.mk i j (1 + v)]), ⟨by show j + 1 ≤ _; omega, hkq, j3.app hla hj1 (by omega) (by omega)⟩, (by show _ - (j + 1) < _; omega), back [0, 1, 2, 3, 4, 7] rfl rfl (by repeat' (first | exact trivial | exact rfl | refine And.intro ?_ ?_)) (by repeat' (first | exact trivial | exact rfl | refine And.intro ?_ ?_))⟩
                  · exact ⟨(j + 1, kq, []), ⟨by show j + 1 ≤ _; omega, hkq, j3.skip⟩, (by show _ - (j + 1) < _; omega), back [0, 1, 2, 3, 4, 5] rfl rfl (by repeat' (first | exact trivial | exact rfl | refine And.intro ?_ ?_)) (by repeat' (first | exact trivial | exact rfl | refine And.intro ?_ ?_))⟩
                · repeat' (first | (refine idx_sl (k := i) (at_map hla) (by omega) ?_) | refine o1 ?_ | refine o2 ?_ | refine k1 ?_ | refine k2 ?_ | refine k3 ?_ | refine k8 ?_ | refine And.intro ?_ ?_ | (intro h; first | exact Bool.noConfusion h | exact nz _ h | exact nl h | (simp at h; done) | (simp at h; first | (exfalso; omega) | skip) | skip) | refine eqv_len_map ?_ | refine eqv_wrap (by omega) (by omega) ?_ | fail)
                  exact ⟨(i + 1, k, []), ⟨by show i + 1 ≤ _; omega, j2, j3.toI (by omega)⟩, (by show _ - (i + 1) < _; omega), back [0, 1, 2, 3, 4, 5] rfl rfl (by repeat' (first | exact trivial | exact rfl | refine And.intro ?_ ?_)) (by repeat' (first | exact trivial | exact rfl | refine And.intro ?_ ?_))⟩
              · simp only [List.length_cons, List.length_nil] at jl
                dsimp only [slP, obP, zeroM, mb, cb4, nilA, List.map, List.length_cons, List.length_nil, List.length_map]
                rcases Nat.lt_or_ge j la.length with hj1 | hj1
                · repeat' (first | (refine idx_sl (k := i) (at_map hla) (by omega) ?_) | (refine app_consm (f := Load.row) (Load.mk i j (1 + v)) rfl ?_) | refine o1 ?_ | refine o2 ?_ | refine k1 ?_ | refine k2 ?_ | refine k3 ?_ | refine k4 ?_ | refine k6 ?_ | refine And.intro ?_ ?_ | refine o3 ?_ | refine o4 ?_ | (intro h; first | exact Bool.noConfusion h | exact nz _ h | exact nl h | (simp at h; done) | (simp at h; first | (exfalso; omega) | skip) | skip) | (refine (?_ : srcLen _ = rowsLen _); rfl) | exact (by kernel_rfl : drawOk _ _ = true) | refine eqv_len_map ?_ | refine eqv_wrap (by omega) (by omega) ?_ | (refine (?_ : _ ≤ 140737488355328); simp [rowsLen] <;> omega) | (refine (?_ : _ ≤ 9223372036854775807); simp [rowsLen] <;> omega) | (refine (?_ : _ = rowsLen _); simp [rowsLen] <;> omega) | (change vcFun _ _ _ _ _; refine call_one2 0 rfl (by assumption) (by assumption) (by omega) (by omega) ?_; intro bq kq hkq) | (change vcFunD _ _ _ _ _; refine callD_next 0 rfl (by assumption) (by assumption) (by omega) (by omega) ?_; intro v kq hv1 hv2 hkq) | fail)
                  all_goals first
                    | (exfalso; omega)
                    | skip
                  · exact ⟨(j + 1, kq, l0 :: (lds ++ [Load.mk i j (1 + v)])), ⟨by show j + 1 ≤ _; omega, hkq, j3.app hla hj1 (by omega) (by omega)⟩, (by show _ - (j + 1) < _; omega), back [0, 1, 2, 3, 4, 7] rfl rfl (by repeat' (first | exact trivial | exact rfl | refine And.intro ?_ ?_)) (by repeat' (first | exact trivial | exact rfl | refine And.intro ?_ ?_))⟩
                  · exact ⟨(j + 1, kq, l0 :: lds), ⟨by show j + 1 ≤ _; omega, hkq, j3.skip⟩, (by show _ - (j + 1) < _; omega), back [0, 1, 2, 3, 4, 5] rfl rfl (by repeat' (first | exact trivial | exact rfl | refine And.intro ?_ ?_)) (by repeat' (first | exact trivial | exact rfl | refine And.intro ?_ ?_))⟩
                · repeat' (first | (refine idx_sl (k := i) (at_map hla) (by omega) ?_) | refine o1 ?_ | refine o2 ?_ | refine k1 ?_ | refine k2 ?_ | refine k3 ?_ | refine k8 ?_ | refine And.intro ?_ ?_ | (intro h; first | exact Bool.noConfusion h | exact nz _ h | exact nl h | (simp at h; done) | (simp at h; first | (exfalso; omega) | skip) | skip) | refine eqv_len_map ?_ | refine eqv_wrap (by omega) (by omega) ?_ | fail)
                  exact ⟨(i + 1, k, l0 :: lds), ⟨by show i + 1 ≤ _; omega, j2, j3.toI (by omega)⟩, (by show _ - (i + 1) < _; omega), back [0, 1, 2, 3, 4, 5] rfl rfl (by repeat' (first | exact trivial | exact rfl | refine And.intro ?_ ?_)) (by repeat' (first | exact trivial | exact rfl | refine And.intro ?_ ?_))⟩
            · repeat' (first | refine o1 ?_ | refine o2 ?_ | refine k1 ?_ | refine k2 ?_ | refine k3 ?_ | refine k8 ?_ | refine And.intro ?_ ?_ | (intro h; first | exact Bool.noConfusion h | exact nz _ h | exact nl h | (simp at h; done) | (simp at h; first | (exfalso; omega) | skip) | skip) | refine eqv_len_map ?_ | fail)
              exact ⟨(k, l0 :: lds), ⟨i2, i3.at_, by simp only [List.length_cons]; omega⟩, Ghost.trans (Ghost.shut (i := 4) (c := 1) (x := .ms 5 3 0 ((List.map Load.row lds).length + 1)) rfl rfl rfl (by repeat' (first | (show 0 + _ ≤ List.length _; simp))) (show ¬ (4 ∈ ([5] : List Nat)) by decide) (ALe.pv (whole_le (f := Load.row) (l := l0 :: lds) (by simp)))) (back [0, 1, 2, 3, 4] rfl rfl (by repeat' (first | exact trivial | exact rfl | refine And.intro ?_ ?_)) (by repeat' (first | exact trivial | exact rfl | refine And.intro ?_ ?_)))⟩
        refine ⟨?_⟩
        rintro ⟨k, lds⟩ ⟨f1, f2, f3⟩
        dsimp only at f1 f2 f3
        dsimp only [slP, obP, zeroM, mb, cb4, nilA, List.map, List.length_cons, List.length_nil, List.length_map]
        repeat' (first | (refine app_consm (f := Count.row) (Count.mk ru lds mo pe) rfl ?_) | refine o1 ?_ | refine o2 ?_ | refine k2 ?_ | refine And.intro ?_ ?_ | (refine (?_ : srcLen _ = rowsLen _); rfl) | refine eqv_wrap (by omega) (by omega) ?_ | (refine (?_ : _ ≤ 140737488355328); simp [rowsLen] <;> omega) | (refine (?_ : _ ≤ 9223372036854775807); simp [rowsLen] <;> omega) | (refine (?_ : _ = rowsLen _); simp [rowsLen] <;> omega) | fail)
        exact ⟨(n - 1, k, c0 :: (cts ++ [Count.mk ru lds mo pe])), ⟨by show n - 1 + List.length _ ≤ 2; simp; try omega, f1, all_app (l := c0 :: cts) d3 (show CtQ cls r (Count.mk ru lds mo pe) from ⟨⟨m2, m3.1, by have := m3.2; dsimp only; omega, m4, f2⟩, f3⟩)⟩, (by show n - 1 < n; omega), back [0, 1, 2, 6] rfl rfl (by repeat' (first | exact trivial | exact rfl | refine And.intro ?_ ?_)) ⟨slot_eq rfl (congrArg (vint .i64) (by show _ = ((n - 1 : Nat) : Int); omega)), (by repeat' (first | exact trivial | exact rfl | refine And.intro ?_ ?_))⟩⟩
  · exact later
end Go.Proofs.YtihpjcmloecaaaaGreat.Cw
/-
  Made models: the walk.
-/
namespace Go.Proofs.YtihpjcmloecaaaaGreat.Cw
open Go.Cw Go.Proofs
set_option linter.unusedVariables false
set_option maxRecDepth 100000
set_option maxHeartbeats 30000000
theorem c_dmodelX (t : List Int) (k : Nat) (ht : t.length ≤ 400) (hk : k ≤ t.length) (a b : Int) (ha : 0 ≤ a ∧ a ≤ 5) (hb : 1 ≤ b ∧ b ≤ 4) :
    ACall Tryz.prog 32 [.ptr 0 2 0 0, vint .i64 a, vint .i64 b] [dice t k] (fun r H' => ∃ (m : Model) (k' : Nat), k' ≤ t.length ∧ Made m ∧ (m.pairs.length ≤ 200 ∧ m.counts.length ≤ 2) ∧ r = ag m.cells ∧ H' = [dice t k']) := by
  refine acall_of tok mixed 199 rfl (fn := Tryz.f32) (c := Tryz.f32.body.getD .skip) (by kernel_rfl) (by kernel_rfl) (by kernel_rfl) rfl 1 rfl ?_
  repeat' (first | (refine join_in (a := .region 1 _ _) (fun _ => [(7, .ptr 2 4 0 0)]) (fun x : Nat × Int => [dice t x.1, zeroM, mb nilA nilA nilA x.2]) (fun x => x.1 ≤ t.length ∧ 1 ≤ x.2 ∧ x.2 ≤ 4) ?_) | refine o1 ?_ | refine o2 ?_ | refine k1 ?_ | refine k2 ?_ | refine And.intro ?_ ?_ | exact (by kernel_rfl : drawOk _ _ = true) | refine eqv_wrap (by omega) (by omega) ?_ | (change vcFun _ _ _ _ _; refine call_next 0 rfl (by assumption) (by assumption) (by omega) (by omega) ?_; intro v kq hv1 hv2 hkq) | fail)
  · exact ⟨(kq, 1 + v), ⟨hkq, by dsimp only; omega, by dsimp only; omega⟩, back [0, 1, 2] rfl rfl (by repeat' (first | exact trivial | exact rfl | refine And.intro ?_ ?_)) (by repeat' (first | exact trivial | exact rfl | refine And.intro ?_ ?_))⟩
  refine ⟨?_⟩
  rintro ⟨k, r⟩ ⟨r0, r1, r2⟩
  dsimp only at r0 r1 r2
  rw [forceH_eq]
  refine stageB t ht a b r r1 r2 k r0 ha hb ?_
  refine ⟨?_⟩
  rintro ⟨k, cls⟩ ⟨s1, s2, hcls⟩
  dsimp only at s1 s2 hcls
  rw [forceH_eq]
  refine stageC t ht a b r r1 r2 k cls s1 s2 hcls ?_
  refine ⟨?_⟩
  rintro ⟨k, prs⟩ ⟨p1, p2, p3⟩
  dsimp only at p1 p2 p3
  rw [forceH_eq]
  refine stageD t ht a b r r1 r2 k cls prs s2 hcls p1 ?_
  refine ⟨?_⟩
  rintro ⟨k, cts⟩ ⟨q1, q2, q3⟩
  dsimp only at q1 q2 q3
  dsimp only [zeroM, mb, nilA]
  repeat' (first | refine o1 ?_ | refine o2 ?_ | refine k1 ?_ | refine k2 ?_ | refine k7 ?_ | fail)
  exact ret_obj [0] [dice t k] rfl rfl ⟨rfl, trivial⟩ (r' := ag (Model.cells ⟨cls, prs, cts, r⟩)) rfl ⟨⟨cls, prs, cts, r⟩, k, q1, made_of s2 hcls p2 p3 q2 q3 r1 r2, ⟨p3, q2⟩, rfl, rfl⟩
theorem c_dmodel (t : List Int) (k : Nat) (ht : t.length ≤ 400) (hk : k ≤ t.length) (a b : Int) (ha : 0 ≤ a ∧ a ≤ 5) (hb : 1 ≤ b ∧ b ≤ 4) :
    ACall Tryz.prog 32 [.ptr 0 2 0 0, vint .i64 a, vint .i64 b] [dice t k] (fun r H' => ∃ (m : Model) (k' : Nat), k' ≤ t.length ∧ Made m ∧ r = ag m.cells ∧ H' = [dice t k']) :=
  (c_dmodelX t k ht hk a b ha hb).mono fun r H' ⟨m, k', h1, h2, _, h3⟩ => ⟨m, k', h1, h2, h3⟩
end Go.Proofs.YtihpjcmloecaaaaGreat.Cw
/-
  Symmetry: even models.
-/
namespace Go.Proofs.YtihpjcmloecaaaaGreat.Cw
open Go Go.Cw Go.Proofs
set_option linter.unusedVariables false
set_option maxRecDepth 100000
set_option maxHeartbeats 8000000
structure EvL (l : List Opt) : Prop where
  le : l.length ≤ 7
  one : 1 ≤ l.length
  day : ∀ o ∈ l, o.place.time.day = 0 ∨ o.place.time.day = 1
  ch : ∀ o ∈ l, OptQ 2 o
def evB (c p n : AV) : Option AObj := some ⟨29, 4, false, .box [c, p, n, vint .i64 2]⟩
def ob6 (t r : Int) (c : AV) : Option AObj := some ⟨62, 6, false, .box [vint .i64 1, vint .i64 t, vint .i64 0, vint .i64 1, vint .i64 r, c]⟩
theorem ch_one {p : Placed} {n : Int} (h : priceP n) : OptQ 2 ⟨p, [⟨0, n⟩]⟩ := ⟨(ChQ.app (r := 2) (u := 0) ChQ.nil (by decide) h).at_, by show 1 ≤ 4; decide⟩
theorem ch_nil {p : Placed} : OptQ 2 ⟨p, []⟩ := ⟨fun i hi => absurd hi (Nat.not_lt_zero _), by show 0 ≤ 4; decide⟩
structure EvM (m : Model) : Prop where
  ok : modelE m = 0
  laid : Laid m
  cls : ∀ l ∈ m.classes, EvL l
  few : m.classes.length ≤ 5
  prs : m.pairs.length ≤ 200
  cts : m.counts.length ≤ 6
  tabs : ∀ p ∈ m.pairs, p.table.length ≤ 100
theorem even_of {C : List (List Opt)} {P : List Pair} {CS : List Count} (h1 : C.length ≤ 5) (h2 : ∀ l ∈ C, EvL l) (h3 : PrQ C 2 P 1 C.length 0) (h5 : CS.length ≤ 6) (h6 : ∀ c ∈ CS, CtQ C 2 c) : EvM ⟨C, P, CS, 2⟩ := by
  have hl := h3.len
  have hz : sizedP ⟨C, P, CS, 2⟩ := ⟨by dsimp only; omega, fun l hl => by have := (h2 l hl).le; omega, by dsimp only; omega, by dsimp only; omega, by dsimp only; omega, by dsimp only; omega⟩
  refine ⟨mE0 hz ⟨fun l hl o ho => ((h2 l hl).ch o ho).1, h3.at_, fun c hc => (h6 c hc).1⟩, ⟨by dsimp only; omega, by dsimp only; omega, fun l hl o ho => by have := ((h2 l hl).ch o ho).2; omega, fun c hc => by have := (h6 c hc).2; omega⟩, h2, h1, by dsimp only; omega, h5, fun p hp => ?_⟩
  obtain ⟨i, hi⟩ := List.getElem?_of_mem hp
  have hlt : i < P.length := (List.getElem?_eq_some_iff.1 hi).1
  obtain ⟨⟨_, _, _, ⟨a, b, ha, hb, hl⟩, _⟩, _⟩ := h3.at_ i hlt p hi
  have g1 := (h2 a (List.mem_of_getElem? ha)).le
  have g2 := (h2 b (List.mem_of_getElem? hb)).le
  rw [hl]
  exact Nat.le_trans (Nat.mul_le_mul g1 g2) (by omega)
theorem c_even (t : List Int) (k : Nat) (ht : t.length ≤ 400) (hk : k ≤ t.length) (a R : Nat) (ha : a ≤ 5) (hR : R ≤ 3) (hR1 : 1 ≤ R) :
    ACall Tryz.prog 25 [.ptr 0 2 0 0, vint .i64 a, vint .i64 R] [dice t k]
      (fun r H' => ∃ (m : Model) (k' : Nat), k' ≤ t.length ∧ EvM m ∧ r = ag m.cells ∧ H' = [dice t k']) := by
  refine acall_of tok mixed 105 rfl (fn := Tryz.f25) (c := Tryz.f25.body.getD .skip) (by kernel_rfl) (by kernel_rfl) (by kernel_rfl) rfl 1 rfl ?_
  repeat' (first | refine o1 ?_ | refine o2 ?_ | refine k1 ?_ | refine k2 ?_ | refine k4 ?_ | refine And.intro ?_ ?_ | exact (by kernel_rfl : drawOk _ _ = true) | refine eqv_wrap (by omega) (by omega) ?_ | (change vcFun _ _ _ _ _; refine call_next 0 rfl (by assumption) (by assumption) (by omega) (by omega) ?_; intro v kq hv1 hv2 hkq) | fail)
  dsimp only [nilA]
  refine loop_for (fun z : Nat × Nat × List (List Opt) => [(0, .ptr 0 2 0 0), (2, vint .i64 R), (6, .ptr 1 4 0 0), (7, .ptr 2 4 0 0), (8, vint .i64 z.1)])
    (fun z => [dice t z.2.1, zeroM, evB (slP 3 1 (z.2.2.map optsRow)) nilA nilA, obP 51 1 (z.2.2.map optsRow)])
    (fun z => z.1 + z.2.2.length ≤ 5 ∧ z.2.1 ≤ t.length ∧ ∀ l ∈ z.2.2, EvL l) (fun z => z.1) (v.toNat, kq, []) ⟨by simp; omega, hkq, fun n h => absurd h List.not_mem_nil⟩ ?_ ?_
  · exact back [0, 1, 2, 3] rfl rfl (by repeat' (first | exact trivial | exact rfl | refine kept_bx ren_bx0 rfl ?_ | refine And.intro ?_ ?_)) ⟨rfl, rfl, rfl, rfl, slot_eq rfl (congrArg (vint .i64) (by show _ = ((v.toNat : Nat) : Int); omega)), trivial⟩
  rintro ⟨n, k, C⟩ ⟨hn, hk, hC⟩
  dsimp only at hn hk hC ⊢
  dsimp only [evB, zeroM]
  rcases Nat.eq_zero_or_pos n with rfl | hn1
  · refine forceH_in ?_
    refine ghost_seq (Γ' := [(0, .ptr 0 2 0 0), (2, vint .i64 R), (6, .ptr 1 4 0 0), (7, .ptr 2 4 0 0), (8, vint .i64 (0 : Nat))]) (H' := [dice t k, zeroM, evB (.pv (.sl 1 (C.map optsRow))) nilA nilA]) (Ghost.shut_sl (i := 2) (c := 0) (id := 3) rfl rfl rfl (by decide) fun H' hl h2 hH => back [0, 1, 2] rfl rfl ⟨hH 0 (by decide) (by decide), hH 1 (by decide) (by decide), h2, trivial⟩ (by repeat' (first | exact trivial | exact rfl | refine And.intro ?_ ?_))) ?_
    dsimp only [evB, zeroM]
    repeat' (first | refine o1 ?_ | refine o2 ?_ | refine k1 ?_ | refine k2 ?_ | refine k3 ?_ | refine k4 ?_ | refine k8 ?_ | refine And.intro ?_ ?_ | (intro h; first | exact Bool.noConfusion h | exact nz _ h | exact nl h | (simp at h; done) | (simp at h; first | (exfalso; omega) | skip) | skip) | fail)
    refine loop_for (fun z : Nat × Nat × List Pair => [(0, .ptr 0 2 0 0), (2, vint .i64 R), (6, .ptr 1 4 0 0), (7, .ptr 2 4 0 0), (14, vint .i64 z.1)])
      (fun z => [dice t z.2.1, zeroM, evB (.pv (.sl 1 (C.map optsRow))) (slP 3 4 (z.2.2.map Pair.row)) nilA, obP 72 4 (z.2.2.map Pair.row)])
      (fun z => z.1 ≤ C.length ∧ z.2.1 ≤ t.length ∧ PrQ C 2 z.2.2 1 z.1 0) (fun z => C.length - z.1) (0, k, []) ⟨Nat.zero_le _, hk, ⟨fun i h => absurd h (Nat.not_lt_zero _), fun c h => absurd h List.not_mem_nil, by show 0 ≤ _; exact Nat.zero_le _⟩⟩ ?_ ?_
    · exact back [0, 1, 2, 3] rfl rfl (by repeat' (first | exact trivial | exact rfl | refine kept_bx ren_bx1 rfl ?_ | refine And.intro ?_ ?_)) (by repeat' (first | exact trivial | exact rfl | refine And.intro ?_ ?_))
    rintro ⟨i, k, P⟩ ⟨hi, hk, hP⟩
    dsimp only at hi hk hP ⊢
    dsimp only [evB, zeroM]
    rcases Nat.lt_or_ge i C.length with hil | hig
    · repeat' (first | (refine fh_ob ?_) | refine o1 ?_ | refine o2 ?_ | refine k1 ?_ | refine k2 ?_ | refine k3 ?_ | refine k4 ?_ | refine k6 ?_ | refine And.intro ?_ ?_ | (intro h; first | exact Bool.noConfusion h | exact nz _ h | exact nl h | (simp at h; done) | (simp at h; first | (exfalso; omega) | skip) | skip) | refine eqv_len_map ?_ | refine eqv_wrap (by omega) (by omega) ?_ | fail)
      refine loop_for (fun z : Nat × Nat × List Pair => [(0, .ptr 0 2 0 0), (2, vint .i64 R), (6, .ptr 1 4 0 0), (7, .ptr 2 4 0 0), (14, vint .i64 i), (15, vint .i64 z.1)])
        (fun z => [dice t z.2.1, zeroM, evB (.pv (.sl 1 (C.map optsRow))) (slP 3 4 (z.2.2.map Pair.row)) nilA, obP 72 4 (z.2.2.map Pair.row)])
        (fun z => i < z.1 ∧ z.1 ≤ C.length ∧ z.2.1 ≤ t.length ∧ PrQ C 2 z.2.2 1 i z.1) (fun z => C.length - z.1) (i + 1, k, P) ⟨Nat.lt_succ_self _, hil, hk, hP.toK⟩ ?_ ?_
      · refine back [0, 1, 2, 3] rfl rfl ?_ ?_
        · repeat' (first | exact trivial | exact rfl | refine kept_ob rfl ?_ | refine kept_bx ren_bx1 rfl ?_ | refine And.intro ?_ ?_)
        · repeat' (first | exact trivial | exact rfl | refine And.intro ?_ ?_)
      rintro ⟨j, k, P⟩ ⟨hij, hj, hk, hj3⟩
      dsimp only at hij hj hk hj3 ⊢
      dsimp only [evB, zeroM]
      rcases Nat.lt_or_ge j C.length with hjl2 | hjg
      · rcases P with _ | ⟨p0, P⟩
        · skip
          have hjl := hj3.len
          skip
          obtain ⟨x, hx⟩ := getE hil
          obtain ⟨y, hy⟩ := getE hjl2
          have hX := hC x (List.mem_of_getElem? hx)
          have hY := hC y (List.mem_of_getElem? hy)
          have hb1 : ((List.map Pair.row (([] : List Pair))).length + 1) * 48 ≤ 140737488355328 := by rw [List.length_map]; omega
          have hb2 : (List.map Pair.row (([] : List Pair))).length + 1 ≤ 9223372036854775807 := by rw [List.length_map]; omega
          obtain ⟨TT, k', p1, p2, p3, hev⟩ := c_evenPairN t k ht hk C i j x y hx hy hX.le hY.le hX.day hY.day
          repeat' (first | (refine fh_ob ?_) | ((change vcFunD _ _ _ _ _; refine callD_obj [0] [dice t k] [.ptr 0 2 0 0, .agg [.pv (.sl 1 (C.map optsRow)), nilA, nilA, vint .i64 2], vint .i64 i, vint .i64 j] rfl ⟨rfl, trivial⟩ rfl hev rfl ?_)) | ((refine o_appD (rows := List.map Pair.row (([] : List Pair))) rfl rfl rfl rfl rfl rfl rfl rfl rfl rfl rfl hb1 hb2 ?_)) | refine o1 ?_ | refine o2 ?_ | refine k1 ?_ | refine k2 ?_ | refine k3 ?_ | refine k4 ?_ | refine k6 ?_ | refine And.intro ?_ ?_ | refine o3 ?_ | refine o4 ?_ | (intro h; first | exact Bool.noConfusion h | exact nz _ h | exact nl h | (simp at h; done) | (simp at h; first | (exfalso; omega) | skip) | skip) | exact (by kernel_rfl : drawOk _ _ = true) | refine eqv_len_map ?_ | refine eqv_wrap (by omega) (by omega) ?_ | fail)
          all_goals
            refine ⟨(j + 1, k', ([] : List Pair) ++ [⟨i, j, 1, TT⟩]), ⟨by dsimp only; omega, by dsimp only; omega, p1, hj3.app (pair_made hx hy hij (by decide) p2 p3)⟩, by dsimp only; omega, ?_⟩
            dsimp only
            rw [map_snoc, sl_app, ob_app]
            refine back [0, 1, 2, 5] rfl rfl ?_ ?_
            · repeat' (first | exact trivial | exact rfl | refine And.intro ?_ ?_)
            · repeat' (first | exact trivial | exact rfl | refine And.intro ?_ ?_)
        · skip
          have hjl := hj3.len
          skip
          obtain ⟨x, hx⟩ := getE hil
          obtain ⟨y, hy⟩ := getE hjl2
          have hX := hC x (List.mem_of_getElem? hx)
          have hY := hC y (List.mem_of_getElem? hy)
          have hb1 : ((List.map Pair.row (p0 :: P)).length + 1) * 48 ≤ 140737488355328 := by rw [List.length_map]; omega
          have hb2 : (List.map Pair.row (p0 :: P)).length + 1 ≤ 9223372036854775807 := by rw [List.length_map]; omega
          obtain ⟨TT, k', p1, p2, p3, hev⟩ := c_evenPairC t k ht hk C ((List.map Pair.row P).length + 1) (List.map Pair.row (p0 :: P)) i j x y hx hy hX.le hY.le hX.day hY.day
          repeat' (first | (refine fh_ob ?_) | ((change vcFunD _ _ _ _ _; refine callD_obj [0, 3] [dice t k, some ⟨72, 4, false, .p (List.map Pair.row (p0 :: P))⟩] [.ptr 0 2 0 0, .agg [.pv (.sl 1 (C.map optsRow)), .ms 1 4 0 ((List.map Pair.row P).length + 1), nilA, vint .i64 2], vint .i64 i, vint .i64 j] rfl ⟨rfl, rfl, trivial⟩ rfl hev rfl ?_)) | ((refine o_appD (rows := List.map Pair.row (p0 :: P)) rfl rfl rfl rfl rfl rfl rfl rfl rfl rfl rfl hb1 hb2 ?_)) | refine o1 ?_ | refine o2 ?_ | refine k1 ?_ | refine k2 ?_ | refine k3 ?_ | refine k4 ?_ | refine k6 ?_ | refine And.intro ?_ ?_ | refine o3 ?_ | refine o4 ?_ | (intro h; first | exact Bool.noConfusion h | exact nz _ h | exact nl h | (simp at h; done) | (simp at h; first | (exfalso; omega) | skip) | skip) | exact (by kernel_rfl : drawOk _ _ = true) | refine eqv_len_map ?_ | refine eqv_wrap (by omega) (by omega) ?_ | fail)
          all_goals
            refine ⟨(j + 1, k', (p0 :: P) ++ [⟨i, j, 1, TT⟩]), ⟨by dsimp only; omega, by dsimp only; omega, p1, hj3.app (pair_made hx hy hij (by decide) p2 p3)⟩, by dsimp only; omega, ?_⟩
            dsimp only
            rw [map_snoc, sl_app, ob_app]
            refine back [0, 1, 2, 5] rfl rfl ?_ ?_
            · repeat' (first | exact trivial | exact rfl | refine And.intro ?_ ?_)
            · repeat' (first | exact trivial | exact rfl | refine And.intro ?_ ?_)
      · obtain rfl : j = C.length := by omega
        repeat' (first | (refine fh_ob ?_) | refine o1 ?_ | refine o2 ?_ | refine k1 ?_ | refine k2 ?_ | refine k3 ?_ | refine k8 ?_ | refine And.intro ?_ ?_ | (intro h; first | exact Bool.noConfusion h | exact nz _ h | exact nl h | (simp at h; done) | (simp at h; first | (exfalso; omega) | skip) | skip) | refine eqv_len_map ?_ | refine eqv_wrap (by omega) (by omega) ?_ | fail)
        refine ⟨(i + 1, k, P), ⟨by dsimp only; omega, hk, hj3.toI (by omega)⟩, by dsimp only; omega, ?_⟩
        dsimp only
        refine back [0, 1, 2, 3] rfl rfl ?_ ?_
        · repeat' (first | exact trivial | exact rfl | refine kept_ob rfl ?_ | refine kept_bx ren_bx1 rfl ?_ | refine And.intro ?_ ?_)
        · repeat' (first | exact trivial | exact rfl | refine And.intro ?_ ?_)
    · obtain rfl : i = C.length := by omega
      refine forceH_in ?_
      refine ghost_seq (Γ' := [(0, .ptr 0 2 0 0), (2, vint .i64 R), (6, .ptr 1 4 0 0), (7, .ptr 2 4 0 0), (14, vint .i64 C.length)]) (H' := [dice t k, zeroM, evB (.pv (.sl 1 (C.map optsRow))) (.pv (.sl 4 (P.map Pair.row))) nilA]) (Ghost.shut_sl (i := 2) (c := 1) (id := 3) rfl rfl rfl (by decide) fun H' hl h2 hH => back [0, 1, 2] rfl rfl ⟨hH 0 (by decide) (by decide), hH 1 (by decide) (by decide), h2, trivial⟩ (by repeat' (first | exact trivial | exact rfl | refine And.intro ?_ ?_))) ?_
      refine ghost_seq (Γ' := [(0, .ptr 0 2 0 0), (2, vint .i64 R), (6, .ptr 1 4 0 0), (7, .ptr 2 4 0 0), (14, vint .i64 C.length)]) (H' := [dice t k, zeroM, evB (.pv (.sl 1 (C.map optsRow))) (.pv (.sl 4 (P.map Pair.row))) (.pv (.sl 4 []))]) (Ghost.trans (Ghost.shut (i := 2) (c := 2) (x := .pv (.val (.slice none 0 0))) rfl rfl rfl (by repeat' (first | trivial)) (show ¬ (2 ∈ ([] : List Nat)) by decide) (ALe.pv (PLe.nil (z := 4)))) (back [0, 1, 2] rfl rfl (by repeat' (first | exact trivial | exact rfl | refine And.intro ?_ ?_)) (by repeat' (first | exact trivial | exact rfl | refine And.intro ?_ ?_)))) ?_
      dsimp only [evB, zeroM]
      repeat' (first | ((change vcFun _ _ _ _ _; refine call_one (i := 0) rfl (fun _ _ => rfl) [.ptr 0 2 0 0, .agg [.pv (.sl 1 (C.map optsRow)), .pv (.sl 4 (P.map Pair.row)), .pv (.sl 4 []), vint .i64 2], vint .i64 R] rfl (c_evenCounts t kq ht hkq C (P.map Pair.row) R hR (by omega) fun l hl => (hC l hl).le) ?_; rintro r H' ⟨CS, kz, c1, c2, c3, rfl, rfl⟩; refine ⟨_, rfl, fun _ _ => rfl, fun _ _ => rfl, ?_⟩)) | refine o1 ?_ | refine o2 ?_ | refine k1 ?_ | refine k2 ?_ | refine k3 ?_ | refine k6 ?_ | refine k7 ?_ | refine k8 ?_ | refine And.intro ?_ ?_ | (intro h; first | exact Bool.noConfusion h | exact nz _ h | exact nl h | (simp at h; done) | (simp at h; first | (exfalso; omega) | skip) | skip) | refine eqv_len_map ?_ | (change vcFun _ _ _ _ _; refine call_one2 0 rfl (by assumption) (by assumption) (by omega) (by omega) ?_; intro bq kq hkq) | fail)
      all_goals try skip
      · exact ret_obj [0] [dice t kz] rfl rfl ⟨rfl, trivial⟩ (r' := ag (Model.cells ⟨C, P, CS, 2⟩)) rfl ⟨⟨C, P, CS, 2⟩, kz, c1, even_of (by omega) hC hP c2 c3, rfl, rfl⟩
      · exact ret_obj [0] [dice t kq] rfl rfl ⟨rfl, trivial⟩ (r' := ag (Model.cells ⟨C, P, [], 2⟩)) rfl ⟨⟨C, P, [], 2⟩, kq, hkq, even_of (by omega) hC hP (by decide) (fun c h => absurd h List.not_mem_nil), rfl, rfl⟩
  repeat' (first | (refine fh_ob ?_) | refine o1 ?_ | refine o2 ?_ | refine k1 ?_ | refine k2 ?_ | refine k3 ?_ | refine k4 ?_ | refine k6 ?_ | refine And.intro ?_ ?_ | (intro h; first | exact Bool.noConfusion h | exact nz _ h | exact nl h | (simp at h; done) | (simp at h; first | (exfalso; omega) | skip) | skip) | fail)
  refine loop_for (fun z : Nat × Nat × List Opt => [(0, .ptr 0 2 0 0), (2, vint .i64 R), (6, .ptr 1 4 0 0), (7, .ptr 2 4 0 0), (8, vint .i64 n), (9, slP 4 6 (z.2.2.map Opt.row)), (10, vint .i64 z.1)])
    (fun z => [dice t z.2.1, zeroM, evB (slP 3 1 (C.map optsRow)) nilA nilA, obP 51 1 (C.map optsRow), obP 62 6 (z.2.2.map Opt.row)])
    (fun z => z.1 ≤ 2 ∧ z.2.1 ≤ t.length ∧ z.2.2.length ≤ z.1 * 3 ∧ (1 ≤ z.1 → 1 ≤ z.2.2.length) ∧ (∀ o ∈ z.2.2, o.place.time.day = 0 ∨ o.place.time.day = 1) ∧ ∀ o ∈ z.2.2, OptQ 2 o) (fun z => 2 - z.1) (0, k, []) ⟨Nat.zero_le _, hk, Nat.le_refl _, fun h => by dsimp only at h; omega, fun o h => absurd h List.not_mem_nil, fun o h => absurd h List.not_mem_nil⟩ ?_ ?_
  · exact back [0, 1, 2, 3, 4] rfl rfl (by repeat' (first | exact trivial | exact rfl | refine kept_ob rfl ?_ | refine kept_bx ren_bx0 rfl ?_ | refine And.intro ?_ ?_)) (by repeat' (first | exact trivial | exact rfl | refine And.intro ?_ ?_))
  rintro ⟨tt, k, l⟩ ⟨htt, hk, hll, hl1, hld, hlc⟩
  dsimp only at htt hk hll hl1 hld hlc ⊢
  dsimp only [evB, zeroM]
  rcases Nat.lt_or_ge tt 2 with htl | htg
  · repeat' (first | ((change vcFun _ _ _ _ _; refine call_mcost 0 rfl (by assumption) (by assumption) ?_; intro cn kc hcn hkc)) | (refine fh_ob ?_) | refine o1 ?_ | refine o2 ?_ | refine k1 ?_ | refine k2 ?_ | refine k3 ?_ | refine k4 ?_ | refine k6 ?_ | refine k8 ?_ | refine And.intro ?_ ?_ | (intro h; first | exact Bool.noConfusion h | exact nz _ h | exact nl h | (simp at h; done) | (simp at h; first | (exfalso; omega) | skip) | skip) | refine eqv_wrap (by omega) (by omega) ?_ | (change vcFun _ _ _ _ _; refine call_one2 0 rfl (by assumption) (by assumption) (by omega) (by omega) ?_; intro bq kq hkq) | fail)
    case' refine_1 => skip
    all_goals first
      | (exfalso; omega)
      | (refine ⟨(tt + 1, kq, l), ⟨by dsimp only; omega, hkq, by dsimp only; omega, fun _ => by dsimp only; exact hl1 (by omega), hld, hlc⟩, by dsimp only; omega, ?_⟩
         refine back [0, 1, 2, 3, 4] rfl rfl ?_ ?_
         · repeat' (first | exact trivial | exact rfl | refine kept_ob rfl ?_ | refine kept_bx ren_bx0 rfl ?_ | refine And.intro ?_ ?_)
         · repeat' (first | exact trivial | exact rfl | exact ren_get rfl | refine And.intro ?_ ?_))
      | skip
    all_goals
      refine loop_for (fun z : Nat × List Opt => [(0, .ptr 0 2 0 0), (2, vint .i64 R), (6, .ptr 1 4 0 0), (7, .ptr 2 4 0 0), (8, vint .i64 n), (9, slP 4 6 (z.2.map Opt.row)), (10, vint .i64 tt), (11, vint .i64 cn), (12, vint .i64 z.1)])
        (fun z => [dice t kc, zeroM, evB (slP 3 1 (C.map optsRow)) nilA nilA, obP 51 1 (C.map optsRow), obP 62 6 (z.2.map Opt.row)])
        (fun z => z.1 ≤ R ∧ z.2.length ≤ tt * 3 + z.1 ∧ (1 ≤ tt + z.1 → 1 ≤ z.2.length) ∧ (∀ o ∈ z.2, o.place.time.day = 0 ∨ o.place.time.day = 1) ∧ ∀ o ∈ z.2, OptQ 2 o) (fun z => R - z.1) (0, l) ⟨Nat.zero_le _, hll, hl1, hld, hlc⟩ ?_ ?_
      · refine back [0, 1, 2, 3, 4] rfl rfl ?_ ?_
        · repeat' (first | exact trivial | exact rfl | refine kept_ob rfl ?_ | refine kept_bx ren_bx0 rfl ?_ | refine And.intro ?_ ?_)
        · repeat' (first | exact trivial | exact rfl | exact ren_get rfl | refine And.intro ?_ ?_)
      rintro ⟨r, l⟩ ⟨hr, hll, hl1, hld, hlc⟩
      dsimp only at hr hll hl1 hld hlc ⊢
      dsimp only [evB, zeroM]
      rcases Nat.lt_or_ge r R with hrl | hrg
      · have hb1 : ((l.map Opt.row).length + 1) * 64 ≤ 140737488355328 := by rw [List.length_map]; omega
        have hb2 : (l.map Opt.row).length + 1 ≤ 9223372036854775807 := by rw [List.length_map]; omega
        repeat' (first | (refine fh_ob ?_) | (refine join_in (a := .seq (.region 15 _ _) _) (fun _ => []) (fun x : List Charge => [dice t kc, zeroM, evB (slP 3 1 (C.map optsRow)) nilA nilA, obP 51 1 (C.map optsRow), obP 62 6 (l.map Opt.row), ob6 tt r (.pv (.sl 2 (x.map Charge.row)))]) (fun x => OptQ 2 ⟨⟨⟨1, tt, 0, 1⟩, r⟩, x⟩) ?_) | refine o1 ?_ | refine o2 ?_ | refine k1 ?_ | refine k2 ?_ | refine k3 ?_ | refine k4 ?_ | refine k6 ?_ | refine And.intro ?_ ?_ | (intro h; first | exact Bool.noConfusion h | exact nz _ h | exact nl h | (simp at h; done) | (simp at h; first | (exfalso; omega) | skip) | skip) | exact (by kernel_rfl : drawOk _ _ = true) | fail)
        · refine ⟨[⟨0, cn⟩], ch_one (hcn.elim (fun h => by omega) id), Ghost.trans (Ghost.shut (i := 5) (c := 5) (x := .ms 6 2 0 1) rfl rfl rfl (by repeat' (first | (show 0 + _ ≤ List.length _; simp))) (show ¬ (5 ∈ ([6] : List Nat)) by decide) (ALe.pv (whole_le (f := Charge.row) (l := [⟨0, cn⟩]) (by simp)))) (back [0, 1, 2, 3, 4, 5] rfl rfl ?_ ?_)⟩
          · repeat' (first | exact trivial | exact rfl | refine kept_ob rfl ?_ | refine kept_bx ren_bx0 rfl ?_ | refine And.intro ?_ ?_)
          · repeat' (first | exact trivial | exact rfl | exact ren_get rfl | refine And.intro ?_ ?_)
        · refine ⟨[], ch_nil, Ghost.trans (Ghost.shut (i := 5) (c := 5) (x := .pv (.val (.slice none 0 0))) rfl rfl rfl (by repeat' (first | trivial)) (show ¬ (5 ∈ ([] : List Nat)) by decide) (ALe.pv (PLe.nil (z := 2)))) (back [0, 1, 2, 3, 4, 5] rfl rfl ?_ ?_)⟩
          · repeat' (first | exact trivial | exact rfl | refine kept_ob rfl ?_ | refine kept_bx ren_bx0 rfl ?_ | refine And.intro ?_ ?_)
          · repeat' (first | exact trivial | exact rfl | exact ren_get rfl | refine And.intro ?_ ?_)
        refine ⟨?_⟩
        intro x hx
        dsimp only [zeroM, evB, ob6]
        repeat' (first | (refine fv_sl ?_) | (refine fh_ob ?_) | ((refine o_app rfl rfl rfl rfl rfl rfl rfl rfl rfl rfl rfl hb1 hb2 ?_)) | refine o1 ?_ | refine o2 ?_ | refine k2 ?_ | refine eqv_wrap (by omega) (by omega) ?_ | fail)
        refine ⟨(r + 1, l ++ [⟨⟨⟨1, tt, 0, 1⟩, r⟩, x⟩]), ⟨by dsimp only; omega, by dsimp only; rw [List.length_append]; simp only [List.length_cons, List.length_nil]; omega, fun _ => by dsimp only; rw [List.length_append]; simp only [List.length_cons, List.length_nil]; omega, all_app (p := fun o : Opt => o.place.time.day = 0 ∨ o.place.time.day = 1) hld (by dsimp only; omega), all_app hlc hx⟩, by dsimp only; omega, ?_⟩
        dsimp only
        rw [map_snoc, sl_app, ob_app]
        refine back [0, 1, 2, 3, 7] rfl rfl ?_ ?_
        · repeat' (first | exact trivial | exact rfl | refine kept_ob rfl ?_ | refine kept_bx ren_bx0 rfl ?_ | refine And.intro ?_ ?_)
        · repeat' (first | exact trivial | exact rfl | refine And.intro ?_ ?_)
      · obtain rfl : r = R := by omega
        repeat' (first | (refine fh_ob ?_) | refine o1 ?_ | refine o2 ?_ | refine k1 ?_ | refine k2 ?_ | refine k3 ?_ | refine k8 ?_ | refine And.intro ?_ ?_ | (intro h; first | exact Bool.noConfusion h | exact nz _ h | exact nl h | (simp at h; done) | (simp at h; first | (exfalso; omega) | skip) | skip) | refine eqv_wrap (by omega) (by omega) ?_ | fail)
        refine ⟨(tt + 1, kc, l), ⟨by dsimp only; omega, hkc, by dsimp only; omega, fun _ => by dsimp only; exact hl1 (by omega), hld, hlc⟩, by dsimp only; omega, ?_⟩
        dsimp only
        refine back [0, 1, 2, 3, 4] rfl rfl ?_ ?_
        · repeat' (first | exact trivial | exact rfl | refine kept_ob rfl ?_ | refine kept_bx ren_bx0 rfl ?_ | refine And.intro ?_ ?_)
        · repeat' (first | exact trivial | exact rfl | exact ren_get rfl | refine And.intro ?_ ?_)
  obtain rfl : tt = 2 := by omega
  have hb1 : ((l.map Opt.row).length + 1) * 64 ≤ 140737488355328 := by rw [List.length_map]; omega
  have hb2 : (l.map Opt.row).length + 1 ≤ 9223372036854775807 := by rw [List.length_map]; omega
  have hb3 : ((C.map optsRow).length + 1) * 24 ≤ 140737488355328 := by rw [List.length_map]; omega
  have hb4 : (C.map optsRow).length + 1 ≤ 9223372036854775807 := by rw [List.length_map]; omega
  repeat' (first | (refine fv_sl ?_) | (refine fh_ob ?_) | (refine join_in (a := .seq (.region 18 _ _) _) (fun x : Nat × List Opt => [(9, .pv (.sl 6 (x.2.map Opt.row)))]) (fun x => [dice t x.1, zeroM, evB (slP 3 1 (C.map optsRow)) nilA nilA, obP 51 1 (C.map optsRow)]) (fun x => x.1 ≤ t.length ∧ EvL x.2) ?_) | ((refine o_app rfl rfl rfl rfl rfl rfl rfl rfl rfl rfl rfl hb1 hb2 ?_)) | refine o1 ?_ | refine o2 ?_ | refine k1 ?_ | refine k2 ?_ | refine k3 ?_ | refine k6 ?_ | refine k8 ?_ | refine And.intro ?_ ?_ | (intro h; first | exact Bool.noConfusion h | exact nz _ h | exact nl h | (simp at h; done) | (simp at h; first | (exfalso; omega) | skip) | skip) | (change vcFun _ _ _ _ _; refine call_one2 0 rfl (by assumption) (by assumption) (by omega) (by omega) ?_; intro bq kq hkq) | fail)
  · refine ⟨(kq, l ++ [⟨⟨⟨2, 0, 0, 1⟩, -1⟩, []⟩]), ⟨hkq, ⟨by dsimp only; rw [List.length_append]; simp only [List.length_cons, List.length_nil]; omega, by dsimp only; rw [List.length_append]; simp only [List.length_cons, List.length_nil]; omega, all_app (p := fun o : Opt => o.place.time.day = 0 ∨ o.place.time.day = 1) hld (.inl rfl), all_app hlc ch_nil⟩⟩, Ghost.sl (s := 9) (id := 6) (rows := l.map Opt.row ++ [[ei 2, ei 0, ei 0, ei 1, ei (-1), .val (.slice none 0 0)]]) (by rw [sl_app]; rfl) (by rw [ob_app]; rfl) fun H' hl hH => Ghost.trans (Ghost.weak (s := 9) (y := .pv (.sl 6 (l.map Opt.row ++ [Opt.row ⟨⟨⟨2, 0, 0, 1⟩, -1⟩, []⟩]))) rfl (ALe.pv (PLe.sl (PLeLL.app PLeLL.refl ⟨⟨PLe.refl, PLe.refl, PLe.refl, PLe.refl, PLe.refl, PLe.nil, trivial⟩, trivial⟩)))) ?_⟩
    dsimp only
    rw [map_snoc]
    refine back [0, 1, 2, 3] rfl rfl ⟨hH 0 (by decide), hH 1 (by decide), kept_bx ren_bx0 (hH 2 (by decide)) (kept_ob (hH 3 (by decide)) trivial)⟩ ?_
    repeat' (first | exact trivial | exact rfl | refine And.intro ?_ ?_)
  · refine ⟨(kq, l), ⟨hkq, ⟨by dsimp only; omega, by dsimp only; exact hl1 (by omega), hld, hlc⟩⟩, Ghost.sl (s := 9) (id := 4) (rows := l.map Opt.row) rfl rfl fun H' hl hH => ?_⟩
    refine back [0, 1, 2, 3] rfl rfl ⟨hH 0 (by decide), hH 1 (by decide), kept_bx ren_bx0 (hH 2 (by decide)) (kept_ob (hH 3 (by decide)) trivial)⟩ ?_
    repeat' (first | exact trivial | exact rfl | refine And.intro ?_ ?_)
  refine ⟨?_⟩
  rintro ⟨k, l⟩ ⟨hk, hl⟩
  dsimp only at hk hl ⊢
  dsimp only [zeroM, evB]
  repeat' (first | (refine fv_sl ?_) | (refine fh_ob ?_) | ((refine o_app rfl rfl rfl rfl rfl rfl rfl rfl rfl rfl rfl hb3 hb4 ?_)) | refine o1 ?_ | refine o2 ?_ | refine k2 ?_ | refine eqv_wrap (by omega) (by omega) ?_ | fail)
  refine ⟨(n - 1, k, C ++ [l]), ⟨by dsimp only; rw [List.length_append]; simp only [List.length_cons, List.length_nil]; omega, hk, all_app hC hl⟩, by dsimp only; omega, ?_⟩
  dsimp only
  rw [map_snoc, sl_app, ob_app]
  refine back [0, 1, 2, 5] rfl rfl ?_ ⟨rfl, rfl, rfl, rfl, slot_eq rfl (congrArg (vint .i64) (by show _ = ((n - 1 : Nat) : Int); omega)), trivial⟩
  repeat' (first | exact trivial | exact rfl | refine And.intro ?_ ?_)
end Go.Proofs.YtihpjcmloecaaaaGreat.Cw
/-
  Contracts: the places of a plan.
-/
namespace Go.Proofs.YtihpjcmloecaaaaGreat.Cw
open Go.Cw Go.Proofs
set_option linter.unusedVariables false
set_option maxRecDepth 100000
set_option maxHeartbeats 1600000
def plc (m : Model) (plan : List Int) (i : Nat) : Option Placed := match m.classes[i]?, plan[i]? with
  | some l, some o => (l[o.toNat]?).map Opt.place
  | _, _ => none
def placesTo (m : Model) (plan : List Int) (n : Nat) : List Placed := (List.range n).filterMap (plc m plan)
noncomputable def placesV (m : Model) (plan : List Int) : List Placed := if completeE m plan = 0 then placesTo m plan plan.length else []
def mbox (m : Model) : Option AObj := some ⟨29, 4, false, .box [.pv (.sl 1 (m.classes.map optsRow)), .pv (.sl 4 (m.pairs.map Pair.row)), .pv (.sl 4 (m.counts.map Count.row)), vint .i64 m.rules]⟩
end Go.Proofs.YtihpjcmloecaaaaGreat.Cw
/-
  Made plans.
-/
namespace Go.Proofs.YtihpjcmloecaaaaGreat.Cw
open Go.Cw Go.Proofs
set_option linter.unusedVariables false
set_option maxRecDepth 100000
set_option maxHeartbeats 1600000
structure PlQ (m : Model) (full : Bool) (l : List Int) (n : Nat) : Prop where
  len : l.length = n
  at_ : ∀ i, i < n → ∀ o, l[i]? = some o → ∀ c, m.classes[i]? = some c → (full = true → 0 ≤ o) ∧ o < c.length
end Go.Proofs.YtihpjcmloecaaaaGreat.Cw
/-
  Odd models.
-/
namespace Go.Proofs.YtihpjcmloecaaaaGreat.Cw
open Go.Cw Go.Proofs
set_option linter.unusedVariables false
set_option maxRecDepth 100000
set_option maxHeartbeats 30000000
theorem app_wholem {α : Type} {f : α → List PV} {e : α} {l : List α} {K : Go.Cw.Rows → Nat → Prop} (h : K (.p (f e :: l.map f)) ((l.map f).length + 1)) : eqv (Go.Cw.Rows.p (List.map f (e :: l))) fun rr => eqv (rowsLen rr) (K rr) :=
  ⟨_, rfl, _, by simp [rowsLen], h⟩
theorem app_mfirst {c : List AV} {K : Go.Cw.Rows → Nat → Prop} (h : K (.m [c]) 1) : eqv (Go.Cw.Rows.m (List.take 1 (List.drop 0 [c]))) fun rr => eqv (rowsLen rr) (K rr) :=
  ⟨_, rfl, _, rfl, h⟩
theorem app_mlast {r1 : List PV} {xs : List (List PV)} {r : List AV} {K : Go.Cw.Rows → Nat → Prop} (h : K (.m ((r1 :: xs).map pvs ++ [r])) (xs.length + 2)) : eqv (Go.Cw.Rows.m ((List.drop 0 (r1 :: xs)).map pvs ++ List.take 1 (List.drop 0 [r]))) fun rr => eqv (rowsLen rr) (K rr) :=
  ⟨_, rfl, _, by simp [rowsLen], h⟩
theorem lit_idx {v : Int} {n : Nat} {K : Nat → Prop} (h1 : 0 ≤ v) (h2 : v < n) (h : ∀ k, k < n → K (0 + k)) : ∃ k : Nat, v = ↑k ∧ k < n ∧ eqv (0 + k) K :=
  ⟨v.toNat, by omega, by omega, _, rfl, h _ (by omega)⟩
theorem lit4_load {α : Type} {a b c d : α} {k n : Nat} {C : α → Prop} (hn : n = 4) (hk : k < n) (ha : C a) (hb : C b) (hc : C c) (hd : C d) : ∃ r, [a, b, c, d][0 + k]? = some r ∧ C r := by
  subst hn
  match k, hk with
  | 0, _ => exact ⟨a, rfl, ha⟩
  | 1, _ => exact ⟨b, rfl, hb⟩
  | 2, _ => exact ⟨c, rfl, hc⟩
  | 3, _ => exact ⟨d, rfl, hd⟩
theorem row0_load {α : Type} {r : α} {l : List α} {C : α → Prop} (h : C r) : ∃ x, (r :: l)[0]? = some x ∧ C x := ⟨_, rfl, h⟩
theorem app_lit {r : List PV} {l : List (List PV)} {K : Go.Cw.Rows → Nat → Prop} (h : K (.p (r :: l)) (l.length + 1)) : eqv (Go.Cw.Rows.p (List.drop 0 [r] ++ l)) fun rr => eqv (rowsLen rr) (K rr) := ⟨_, rfl, _, rfl, h⟩
theorem set0p {r x : List PV} {l : List (List PV)} {K : List (List PV) → Prop} (h : K (x :: l)) : eqv ((r :: l).set 0 x) K := ⟨_, rfl, h⟩
theorem set0m {r : List PV} {x : List AV} {l : List (List PV)} {K : List (List AV) → Prop} (h : K (x :: l.map pvs)) : eqv ((List.map pvs (r :: l)).set 0 x) K := ⟨_, rfl, h⟩
theorem okL1 {α : Type} {x : α} {P : α → Prop} (h : P x) : ∀ r ∈ List.take 1 (List.drop 0 [x]), P r := fun r hr => by
  have : r ∈ [x] := hr
  rw [List.mem_singleton] at this; subst this; exact h
def YY {α : Type} (_ : α) : Prop := True
def OptL (o : Opt) : Prop := o.charges.length ≤ 9223372036854775807
def ClsL (l : List Opt) : Prop := l.length ≤ 1000 ∧ ∀ o ∈ l, OptL o
def CntL (c : Count) : Prop := c.loads.length ≤ 9223372036854775807
def eI (n : Int) : List PV := [ei n]
section
variable {a b c d e : Int} {p : PV} {n : Nat}
theorem row_cls (h : SlOf 6 Opt.row OptL 1000 p) : RowOf optsRow ClsL [p] := by
  obtain ⟨l, h0, h1, h2⟩ := h
  exact ⟨l, ⟨h0, h1⟩, h2, trivial⟩
theorem row_opt (h : SlOf 2 Charge.row YY 1000 p) : RowOf Opt.row OptL [ei a, ei b, ei c, ei d, ei e, p] := by
  obtain ⟨l, h0, h1, h2⟩ := h
  exact ⟨⟨⟨⟨a, b, c, d⟩, e⟩, l⟩, by show l.length ≤ _; omega, PLe.refl, PLe.refl, PLe.refl, PLe.refl, PLe.refl, h2, trivial⟩
theorem row_charge : RowOf Charge.row YY [ei a, ei b] := ⟨⟨a, b⟩, trivial, PLeL.refl⟩
theorem row_pair (h : SlOf 1 eI YY n p) : RowOf Pair.row YY [ei a, ei b, ei c, p] := by
  obtain ⟨l, h0, h1, h2⟩ := h
  exact ⟨⟨a, b, c, l⟩, trivial, PLe.refl, PLe.refl, PLe.refl, h2, trivial⟩
theorem row_count (h : SlOf 3 Load.row YY 1000 p) : RowOf Count.row CntL [ei a, p, ei b, ei c] := by
  obtain ⟨l, h0, h1, h2⟩ := h
  exact ⟨⟨a, l, b, c⟩, by show l.length ≤ _; omega, PLe.refl, h2, PLe.refl, PLe.refl, trivial⟩
theorem row_load : RowOf Load.row YY [ei a, ei b, ei c] := ⟨⟨a, b, c⟩, trivial, PLeL.refl⟩
end
structure LaidX (y : Model) : Prop where
  laid : Laid y
  cn : y.classes.length ≤ 1000
  on : ∀ l ∈ y.classes, l.length ≤ 1000
theorem fin_model {t : List Int} {c p n : PV} {ru : Int} (k : Nat) (hk : k ≤ t.length) (h1 : SlOf 1 optsRow ClsL 1000 c) (h2 : SlOf 4 Pair.row YY 1000 p) (h3 : SlOf 4 Count.row CntL 1000 n) :
    ∃ (y : Model) (k' : Nat), k' ≤ t.length ∧ LaidX y ∧ Leq (.agg [.pv c, .pv p, .pv n, vint .i64 ru]) (ag y.cells) ∧ [dice t k] = [dice t k'] := by
  obtain ⟨l1, a1, b1, c1⟩ := h1
  obtain ⟨l2, a2, b2, c2⟩ := h2
  obtain ⟨l3, a3, b3, c3⟩ := h3
  exact ⟨⟨l1, l2, l3, ru⟩, k, hk, ⟨⟨by show l1.length ≤ _; omega, by show l2.length ≤ _; omega, fun l hl => (b1 l hl).2, b3⟩, a1, fun l hl => (b1 l hl).1⟩, ⟨ALe.agg ⟨ALe.pv c1, ALe.pv c2, ALe.pv c3, ALe.refl, trivial⟩⟩, rfl⟩
end Go.Proofs.YtihpjcmloecaaaaGreat.Cw
/-
  Odd models: no pairs, no counts.
-/
namespace Go.Proofs.YtihpjcmloecaaaaGreat.Cw
open Go.Cw Go.Proofs
set_option linter.unusedVariables false
set_option maxRecDepth 100000
set_option maxHeartbeats 30000000
theorem c_odd000 (t : List Int) (k : Nat) (ht : t.length ≤ 400) (hk : k ≤ t.length) (ru : Int) (q1 : ∀ l ∈ ([] : List (List Opt)), ClsL l) (q3 : ∀ c ∈ ([] : List Count), CntL c) (h1 : ([] : List (List Opt)).length ≤ 5) (h2 : ([] : List Pair).length ≤ 200) (h3 : ([] : List Count).length ≤ 6) (h4 : ∀ p ∈ ([] : List Pair), p.table.length ≤ 100) :
    ACall Tryz.prog 33 [.ptr 0 2 0 0, ag (Model.cells ⟨[], [], [], ru⟩)] [dice t k] (fun r H' => ∃ (y : Model) (k' : Nat), k' ≤ t.length ∧ LaidX y ∧ Leq r (ag y.cells) ∧ H' = [dice t k']) := by
  have q2 : ∀ p ∈ ([] : List Pair), YY p := fun _ _ => trivial
  dsimp only [Model.cells]
  refine acall_of tok mixed 126 rfl (fn := Tryz.f33) (c := Tryz.f33.body.getD .skip) (by kernel_rfl) (by kernel_rfl) (by kernel_rfl) rfl 1 rfl ?_
  repeat' (first | refine o1 ?_ | refine o2 ?_ | refine k1 ?_ | refine k2 ?_ | refine k3 ?_ | refine k4 ?_ | refine k6 ?_ | refine k7 ?_ | refine And.intro ?_ ?_ | refine o3 ?_ | refine o4 ?_ | (intro h; first | exact Bool.noConfusion h | exact nz _ h | exact nl h | (simp at h; done) | (simp at h; first | (exfalso; omega) | skip) | skip) | (refine (?_ : srcLen _ = rowsLen _); rfl) | exact Nat.le_of_ble_eq_true rfl | exact (by kernel_rfl : drawOk _ _ = true) | refine eqv_wrap (by omega) (by omega) ?_ | (refine (?_ : _ ≤ 9223372036854775807); simp [rowsLen] <;> omega) | refine eqv_to _ (app_first rfl) (eqv_to 1 rfl ?_) | (change vcFun _ _ _ _ _; refine call_next 0 rfl (by assumption) (by assumption) (by omega) (by omega) ?_; intro v kq hv1 hv2 hkq) | (change vcFunD _ _ _ _ _; refine callD_next 0 rfl (by assumption) (by assumption) (by omega) (by omega) ?_; intro v kq hv1 hv2 hkq) | (refine app_mfirst ?_) | (refine lit_idx (by assumption) (by assumption) (fun kx hkx => ?_)) | (refine lit4_load rfl (by assumption) ?_ ?_ ?_ ?_) | (refine ⟨(24 + v).toNat, (24 + v).toNat, by omega, by omega, Nat.le_refl _, ?_⟩) | ((refine (?_ : Int.toNat _ * _ ≤ _); omega)) | (refine (eqv_rfl ?_ : eqv (List.replicate _ _) _)) | fail)
  all_goals try (refine ret_conv [0] [dice t kq] rfl rfl ⟨rfl, trivial⟩ rfl (by repeat' (first | exact True.intro | refine And.intro ?_ ?_ | (show 0 + _ ≤ List.length _; simp) | refine okL1 ?_)) rfl (fin_model kq hkq ?_ ?_ ?_))
  all_goals repeat' (first | exact SlOf.nil | refine SlOf.sl ?_ (by simp <;> omega) | exact RowsOf.map (by assumption) | exact RowsOf.nil | refine RowsOf.cons ?_ ?_ | refine RowsOf.take ?_ | refine RowsOf.drop ?_ | refine RowsOf.rep ?_ | exact row_load | exact row_charge | refine row_count ?_ | refine row_opt ?_ | refine row_cls ?_)
theorem c_odd001 (t : List Int) (k : Nat) (ht : t.length ≤ 400) (hk : k ≤ t.length) (l0 : List Opt) (cls : List (List Opt)) (ru : Int) (q1 : ∀ l ∈ (l0 :: cls : List (List Opt)), ClsL l) (q3 : ∀ c ∈ ([] : List Count), CntL c) (h1 : (l0 :: cls : List (List Opt)).length ≤ 5) (h2 : ([] : List Pair).length ≤ 200) (h3 : ([] : List Count).length ≤ 6) (h4 : ∀ p ∈ ([] : List Pair), p.table.length ≤ 100) :
    ACall Tryz.prog 33 [.ptr 0 2 0 0, ag (Model.cells ⟨l0 :: cls, [], [], ru⟩)] [dice t k] (fun r H' => ∃ (y : Model) (k' : Nat), k' ≤ t.length ∧ LaidX y ∧ Leq r (ag y.cells) ∧ H' = [dice t k']) := by
  have q2 : ∀ p ∈ ([] : List Pair), YY p := fun _ _ => trivial
  obtain ⟨q1a, q1b⟩ := List.forall_mem_cons.1 q1
  simp only [List.length_cons] at h1
  dsimp only [Model.cells]
  refine acall_of tok mixed 126 rfl (fn := Tryz.f33) (c := Tryz.f33.body.getD .skip) (by kernel_rfl) (by kernel_rfl) (by kernel_rfl) rfl 1 rfl ?_
  repeat' (first | ((refine retL rfl rfl rfl ?_ rfl rfl rfl ?_; · repeat' (first | exact True.intro | refine And.intro ?_ ?_ | (show 0 + _ ≤ List.length _; simp) | refine okL1 ?_))) | refine o1 ?_ | refine o2 ?_ | refine k1 ?_ | refine k2 ?_ | refine k3 ?_ | refine k4 ?_ | refine k6 ?_ | refine k7 ?_ | refine And.intro ?_ ?_ | refine o3 ?_ | refine o4 ?_ | (intro h; first | exact Bool.noConfusion h | exact nz _ h | exact nl h | (simp at h; done) | (simp at h; first | (exfalso; omega) | skip) | skip) | (refine (?_ : srcLen _ = rowsLen _); rfl) | exact Nat.le_of_ble_eq_true rfl | exact (by kernel_rfl : drawOk _ _ = true) | refine eqv_wrap (by omega) (by omega) ?_ | (refine (?_ : _ ≤ 140737488355328); simp [rowsLen] <;> omega) | (refine (?_ : _ ≤ 9223372036854775807); simp [rowsLen] <;> omega) | (refine (?_ : _ = rowsLen _); simp [rowsLen] <;> omega) | refine eqv_to _ (app_first rfl) (eqv_to 1 rfl ?_) | (change vcFun _ _ _ _ _; refine call_next 0 rfl (by assumption) (by assumption) (by omega) (by omega) ?_; intro v kq hv1 hv2 hkq) | (change vcFunD _ _ _ _ _; refine callD_next 0 rfl (by assumption) (by assumption) (by omega) (by omega) ?_; intro v kq hv1 hv2 hkq) | (refine app_wholem ?_) | (refine app_mfirst ?_) | (refine app_mlast ?_) | (refine lit_idx (by assumption) (by assumption) (fun kx hkx => ?_)) | (refine lit4_load rfl (by assumption) ?_ ?_ ?_ ?_) | (refine ⟨(24 + v).toNat, (24 + v).toNat, by omega, by omega, Nat.le_refl _, ?_⟩) | ((refine (?_ : Int.toNat _ * _ ≤ _); omega)) | (refine (eqv_rfl ?_ : eqv (List.replicate _ _) _)) | fail)
  all_goals try (refine ret_conv [0] [dice t kq] rfl rfl ⟨rfl, trivial⟩ rfl (by repeat' (first | exact True.intro | refine And.intro ?_ ?_ | (show 0 + _ ≤ List.length _; simp) | refine okL1 ?_)) rfl (fin_model kq hkq ?_ ?_ ?_))
  all_goals repeat' (first | exact SlOf.nil | refine SlOf.sl ?_ (by simp <;> omega) | exact RowsOf.map (by assumption) | exact RowsOf.nil | refine RowsOf.cons ?_ ?_ | refine RowsOf.app ?_ ?_ | refine RowsOf.take ?_ | refine RowsOf.drop ?_ | refine RowsOf.rep ?_ | exact RowOf.mk (by assumption) PLeL.refl | exact row_load | exact row_charge | refine row_count ?_ | refine row_opt ?_ | refine row_cls ?_)
end Go.Proofs.YtihpjcmloecaaaaGreat.Cw
/-
  Odd models: no pairs.
-/
namespace Go.Proofs.YtihpjcmloecaaaaGreat.Cw
open Go.Cw Go.Proofs
set_option linter.unusedVariables false
set_option maxRecDepth 100000
set_option maxHeartbeats 30000000
theorem c_odd010 (t : List Int) (k : Nat) (ht : t.length ≤ 400) (hk : k ≤ t.length) (c0 : Count) (cts : List Count) (ru : Int) (q1 : ∀ l ∈ ([] : List (List Opt)), ClsL l) (q3 : ∀ c ∈ (c0 :: cts : List Count), CntL c) (h1 : ([] : List (List Opt)).length ≤ 5) (h2 : ([] : List Pair).length ≤ 200) (h3 : (c0 :: cts : List Count).length ≤ 6) (h4 : ∀ p ∈ ([] : List Pair), p.table.length ≤ 100) :
    ACall Tryz.prog 33 [.ptr 0 2 0 0, ag (Model.cells ⟨[], [], c0 :: cts, ru⟩)] [dice t k] (fun r H' => ∃ (y : Model) (k' : Nat), k' ≤ t.length ∧ LaidX y ∧ Leq r (ag y.cells) ∧ H' = [dice t k']) := by
  have q2 : ∀ p ∈ ([] : List Pair), YY p := fun _ _ => trivial
  obtain ⟨q3a, q3b⟩ := List.forall_mem_cons.1 q3
  simp only [List.length_cons] at h3
  dsimp only [Model.cells]
  refine acall_of tok mixed 126 rfl (fn := Tryz.f33) (c := Tryz.f33.body.getD .skip) (by kernel_rfl) (by kernel_rfl) (by kernel_rfl) rfl 1 rfl ?_
  repeat' (first | ((refine retL rfl rfl rfl ?_ rfl rfl rfl ?_; · repeat' (first | exact True.intro | refine And.intro ?_ ?_ | (show 0 + _ ≤ List.length _; simp) | refine okL1 ?_))) | refine o1 ?_ | refine o2 ?_ | refine k1 ?_ | refine k2 ?_ | refine k3 ?_ | refine k4 ?_ | refine k6 ?_ | refine k7 ?_ | refine And.intro ?_ ?_ | refine o3 ?_ | refine o4 ?_ | (intro h; first | exact Bool.noConfusion h | exact nz _ h | exact nl h | (simp at h; done) | (simp at h; first | (exfalso; omega) | skip) | skip) | (refine (?_ : srcLen _ = rowsLen _); rfl) | exact Nat.le_of_ble_eq_true rfl | exact (by kernel_rfl : drawOk _ _ = true) | refine eqv_wrap (by omega) (by omega) ?_ | (refine (?_ : _ ≤ 140737488355328); simp [rowsLen] <;> omega) | (refine (?_ : _ ≤ 9223372036854775807); simp [rowsLen] <;> omega) | (refine (?_ : _ = rowsLen _); simp [rowsLen] <;> omega) | (change vcFun _ _ _ _ _; refine call_next 0 rfl (by assumption) (by assumption) (by omega) (by omega) ?_; intro v kq hv1 hv2 hkq) | (change vcFunD _ _ _ _ _; refine callD_next 0 rfl (by assumption) (by assumption) (by omega) (by omega) ?_; intro v kq hv1 hv2 hkq) | (refine app_wholem ?_) | (refine app_mfirst ?_) | (refine app_mlast ?_) | (refine app_cons ?_) | (refine lit_idx (by assumption) (by assumption) (fun kx hkx => ?_)) | (refine lit4_load rfl (by assumption) ?_ ?_ ?_ ?_) | (refine ⟨(24 + v).toNat, (24 + v).toNat, by omega, by omega, Nat.le_refl _, ?_⟩) | ((refine (?_ : Int.toNat _ * _ ≤ _); omega)) | (refine (eqv_rfl ?_ : eqv (List.replicate _ _) _)) | fail)
  all_goals try (refine ret_conv [0] [dice t kq] rfl rfl ⟨rfl, trivial⟩ rfl (by repeat' (first | exact True.intro | refine And.intro ?_ ?_ | (show 0 + _ ≤ List.length _; simp) | refine okL1 ?_)) rfl (fin_model kq hkq ?_ ?_ ?_))
  all_goals repeat' (first | exact SlOf.nil | refine SlOf.sl ?_ (by simp <;> omega) | exact RowsOf.map (by assumption) | exact RowsOf.nil | refine RowsOf.cons ?_ ?_ | refine RowsOf.app ?_ ?_ | refine RowsOf.take ?_ | refine RowsOf.drop ?_ | refine RowsOf.rep ?_ | exact RowOf.mk (by assumption) PLeL.refl | exact row_load | exact row_charge | refine row_count ?_ | refine row_opt ?_ | refine row_cls ?_)
theorem c_odd011 (t : List Int) (k : Nat) (ht : t.length ≤ 400) (hk : k ≤ t.length) (c0 : Count) (cts : List Count) (l0 : List Opt) (cls : List (List Opt)) (ru : Int) (q1 : ∀ l ∈ (l0 :: cls : List (List Opt)), ClsL l) (q3 : ∀ c ∈ (c0 :: cts : List Count), CntL c) (h1 : (l0 :: cls : List (List Opt)).length ≤ 5) (h2 : ([] : List Pair).length ≤ 200) (h3 : (c0 :: cts : List Count).length ≤ 6) (h4 : ∀ p ∈ ([] : List Pair), p.table.length ≤ 100) :
    ACall Tryz.prog 33 [.ptr 0 2 0 0, ag (Model.cells ⟨l0 :: cls, [], c0 :: cts, ru⟩)] [dice t k] (fun r H' => ∃ (y : Model) (k' : Nat), k' ≤ t.length ∧ LaidX y ∧ Leq r (ag y.cells) ∧ H' = [dice t k']) := by
  have q2 : ∀ p ∈ ([] : List Pair), YY p := fun _ _ => trivial
  obtain ⟨q3a, q3b⟩ := List.forall_mem_cons.1 q3
  simp only [List.length_cons] at h3
  obtain ⟨q1a, q1b⟩ := List.forall_mem_cons.1 q1
  simp only [List.length_cons] at h1
  dsimp only [Model.cells]
  refine acall_of tok mixed 126 rfl (fn := Tryz.f33) (c := Tryz.f33.body.getD .skip) (by kernel_rfl) (by kernel_rfl) (by kernel_rfl) rfl 1 rfl ?_
  repeat' (first | ((refine retL rfl rfl rfl ?_ rfl rfl rfl ?_; · repeat' (first | exact True.intro | refine And.intro ?_ ?_ | (show 0 + _ ≤ List.length _; simp) | refine okL1 ?_))) | refine o1 ?_ | refine o2 ?_ | refine k1 ?_ | refine k2 ?_ | refine k3 ?_ | refine k4 ?_ | refine k6 ?_ | refine k7 ?_ | refine And.intro ?_ ?_ | refine o3 ?_ | refine o4 ?_ | (intro h; first | exact Bool.noConfusion h | exact nz _ h | exact nl h | (simp at h; done) | (simp at h; first | (exfalso; omega) | skip) | skip) | (refine (?_ : srcLen _ = rowsLen _); rfl) | exact Nat.le_of_ble_eq_true rfl | exact (by kernel_rfl : drawOk _ _ = true) | refine eqv_wrap (by omega) (by omega) ?_ | (refine (?_ : _ ≤ 140737488355328); simp [rowsLen] <;> omega) | (refine (?_ : _ ≤ 9223372036854775807); simp [rowsLen] <;> omega) | (refine (?_ : _ = rowsLen _); simp [rowsLen] <;> omega) | (change vcFun _ _ _ _ _; refine call_next 0 rfl (by assumption) (by assumption) (by omega) (by omega) ?_; intro v kq hv1 hv2 hkq) | (change vcFunD _ _ _ _ _; refine callD_next 0 rfl (by assumption) (by assumption) (by omega) (by omega) ?_; intro v kq hv1 hv2 hkq) | (refine app_wholem ?_) | (refine app_mlast ?_) | (refine app_cons ?_) | (refine lit_idx (by assumption) (by assumption) (fun kx hkx => ?_)) | (refine lit4_load rfl (by assumption) ?_ ?_ ?_ ?_) | (refine ⟨(24 + v).toNat, (24 + v).toNat, by omega, by omega, Nat.le_refl _, ?_⟩) | ((refine (?_ : Int.toNat _ * _ ≤ _); omega)) | (refine (eqv_rfl ?_ : eqv (List.replicate _ _) _)) | fail)
  all_goals try (refine ret_conv [0] [dice t kq] rfl rfl ⟨rfl, trivial⟩ rfl (by repeat' (first | exact True.intro | refine And.intro ?_ ?_ | (show 0 + _ ≤ List.length _; simp))) rfl (fin_model kq hkq ?_ ?_ ?_))
  all_goals repeat' (first | exact SlOf.nil | refine SlOf.sl ?_ (by simp <;> omega) | exact RowsOf.map (by assumption) | exact RowsOf.nil | refine RowsOf.cons ?_ ?_ | refine RowsOf.app ?_ ?_ | refine RowsOf.take ?_ | refine RowsOf.drop ?_ | refine RowsOf.rep ?_ | exact RowOf.mk (by assumption) PLeL.refl | exact row_load | exact row_charge | refine row_count ?_ | refine row_opt ?_ | refine row_cls ?_)
end Go.Proofs.YtihpjcmloecaaaaGreat.Cw
/-
  Odd models: no counts.
-/
namespace Go.Proofs.YtihpjcmloecaaaaGreat.Cw
open Go.Cw Go.Proofs
set_option linter.unusedVariables false
set_option maxRecDepth 100000
set_option maxHeartbeats 30000000
theorem c_odd100 (t : List Int) (k : Nat) (ht : t.length ≤ 400) (hk : k ≤ t.length) (p0 : Pair) (prs : List Pair) (ru : Int) (q1 : ∀ l ∈ ([] : List (List Opt)), ClsL l) (q3 : ∀ c ∈ ([] : List Count), CntL c) (h1 : ([] : List (List Opt)).length ≤ 5) (h2 : (p0 :: prs : List Pair).length ≤ 200) (h3 : ([] : List Count).length ≤ 6) (h4 : ∀ p ∈ (p0 :: prs : List Pair), p.table.length ≤ 100) :
    ACall Tryz.prog 33 [.ptr 0 2 0 0, ag (Model.cells ⟨[], p0 :: prs, [], ru⟩)] [dice t k] (fun r H' => ∃ (y : Model) (k' : Nat), k' ≤ t.length ∧ LaidX y ∧ Leq r (ag y.cells) ∧ H' = [dice t k']) := by
  have q2 : ∀ p ∈ (p0 :: prs : List Pair), YY p := fun _ _ => trivial
  have h5 := h4 p0 (by simp)
  obtain ⟨q2a, q2b⟩ := List.forall_mem_cons.1 q2
  simp only [List.length_cons] at h2
  dsimp only [Model.cells]
  refine acall_of tok mixed 126 rfl (fn := Tryz.f33) (c := Tryz.f33.body.getD .skip) (by kernel_rfl) (by kernel_rfl) (by kernel_rfl) rfl 1 rfl ?_
  repeat' (first | ((refine ret0 rfl rfl rfl ?_ rfl rfl rfl ?_; · repeat' (first | exact True.intro | refine And.intro ?_ ?_ | (show 0 + _ ≤ List.length _; simp) | refine okL1 ?_))) | refine o1 ?_ | refine o2 ?_ | refine k1 ?_ | refine k2 ?_ | refine k3 ?_ | refine k4 ?_ | refine k7 ?_ | refine And.intro ?_ ?_ | refine o3 ?_ | refine o4 ?_ | (intro h; first | exact Bool.noConfusion h | exact nz _ h | exact nl h | (simp at h; done) | (simp at h; first | (exfalso; omega) | skip) | skip) | (refine (?_ : srcLen _ = rowsLen _); rfl) | exact Nat.le_of_ble_eq_true rfl | exact (by kernel_rfl : drawOk _ _ = true) | refine eqv_zero ?_ | refine eqv_wrap (by omega) (by omega) ?_ | (refine (?_ : _ ≤ 140737488355328); simp [rowsLen] <;> omega) | (refine (?_ : _ ≤ 9223372036854775807); simp [rowsLen] <;> omega) | (refine (?_ : _ = rowsLen _); simp [rowsLen] <;> omega) | refine eqv_to _ (app_first rfl) (eqv_to 1 rfl ?_) | refine idx_ms _ (by first | rfl | assumption) (by first | assumption | omega) ?_ | (change vcFun _ _ _ _ _; refine call_next 0 rfl (by assumption) (by assumption) (by omega) (by omega) ?_; intro v kq hv1 hv2 hkq) | (change vcFunD _ _ _ _ _; refine callD_next 0 rfl (by assumption) (by assumption) (by omega) (by omega) ?_; intro v kq hv1 hv2 hkq) | (refine app_wholem ?_) | (refine app_mfirst ?_) | (refine app_cons ?_) | (refine app_lit ?_) | (refine set0p ?_) | (refine set0m ?_) | (refine row0_load ?_) | (refine lit_idx (by assumption) (by assumption) (fun kx hkx => ?_)) | (refine lit4_load rfl (by assumption) ?_ ?_ ?_ ?_) | (refine ⟨(24 + v).toNat, (24 + v).toNat, by omega, by omega, Nat.le_refl _, ?_⟩) | ((refine (?_ : Int.toNat _ * _ ≤ _); omega)) | (refine (eqv_rfl ?_ : eqv (List.replicate _ _) _)) | fail)
  all_goals try (refine ret_conv [0] [dice t kq] rfl rfl ⟨rfl, trivial⟩ rfl (by repeat' (first | exact True.intro | refine And.intro ?_ ?_ | (show 0 + _ ≤ List.length _; simp) | refine okL1 ?_)) rfl (fin_model kq hkq ?_ ?_ ?_))
  all_goals repeat' (first | exact SlOf.nil | refine SlOf.sl ?_ (by simp <;> omega) | exact RowsOf.map (by assumption) | exact RowsOf.map (f := eI) (fun _ _ => trivial) | exact RowsOf.nil | refine RowsOf.cons ?_ ?_ | refine RowsOf.app ?_ ?_ | refine RowsOf.take ?_ | refine RowsOf.drop ?_ | refine RowsOf.rep ?_ | exact RowOf.mk (by assumption) PLeL.refl | exact row_load | exact row_charge | refine row_count ?_ | refine row_pair (n := 1000) ?_ | refine row_opt ?_ | refine row_cls ?_)
theorem c_odd101 (t : List Int) (k : Nat) (ht : t.length ≤ 400) (hk : k ≤ t.length) (p0 : Pair) (prs : List Pair) (l0 : List Opt) (cls : List (List Opt)) (ru : Int) (q1 : ∀ l ∈ (l0 :: cls : List (List Opt)), ClsL l) (q3 : ∀ c ∈ ([] : List Count), CntL c) (h1 : (l0 :: cls : List (List Opt)).length ≤ 5) (h2 : (p0 :: prs : List Pair).length ≤ 200) (h3 : ([] : List Count).length ≤ 6) (h4 : ∀ p ∈ (p0 :: prs : List Pair), p.table.length ≤ 100) :
    ACall Tryz.prog 33 [.ptr 0 2 0 0, ag (Model.cells ⟨l0 :: cls, p0 :: prs, [], ru⟩)] [dice t k] (fun r H' => ∃ (y : Model) (k' : Nat), k' ≤ t.length ∧ LaidX y ∧ Leq r (ag y.cells) ∧ H' = [dice t k']) := by
  have q2 : ∀ p ∈ (p0 :: prs : List Pair), YY p := fun _ _ => trivial
  have h5 := h4 p0 (by simp)
  obtain ⟨q2a, q2b⟩ := List.forall_mem_cons.1 q2
  simp only [List.length_cons] at h2
  obtain ⟨q1a, q1b⟩ := List.forall_mem_cons.1 q1
  simp only [List.length_cons] at h1
  dsimp only [Model.cells]
  refine acall_of tok mixed 126 rfl (fn := Tryz.f33) (c := Tryz.f33.body.getD .skip) (by kernel_rfl) (by kernel_rfl) (by kernel_rfl) rfl 1 rfl ?_
  repeat' (first | ((refine retL rfl rfl rfl ?_ rfl rfl rfl ?_; · repeat' (first | exact True.intro | refine And.intro ?_ ?_ | (show 0 + _ ≤ List.length _; simp) | refine okL1 ?_))) | ((refine ret0 rfl rfl rfl ?_ rfl rfl rfl ?_; · repeat' (first | exact True.intro | refine And.intro ?_ ?_ | (show 0 + _ ≤ List.length _; simp) | refine okL1 ?_))) | refine o1 ?_ | refine o2 ?_ | refine k1 ?_ | refine k2 ?_ | refine k3 ?_ | refine k4 ?_ | refine k7 ?_ | refine And.intro ?_ ?_ | refine o3 ?_ | refine o4 ?_ | (intro h; first | exact Bool.noConfusion h | exact nz _ h | exact nl h | (simp at h; done) | (simp at h; first | (exfalso; omega) | skip) | skip) | (refine (?_ : srcLen _ = rowsLen _); rfl) | exact Nat.le_of_ble_eq_true rfl | exact (by kernel_rfl : drawOk _ _ = true) | refine eqv_zero ?_ | refine eqv_wrap (by omega) (by omega) ?_ | (refine (?_ : _ ≤ 140737488355328); simp [rowsLen] <;> omega) | (refine (?_ : _ ≤ 9223372036854775807); simp [rowsLen] <;> omega) | (refine (?_ : _ = rowsLen _); simp [rowsLen] <;> omega) | refine eqv_to _ (app_first rfl) (eqv_to 1 rfl ?_) | refine idx_ms _ (by first | rfl | assumption) (by first | assumption | omega) ?_ | (change vcFun _ _ _ _ _; refine call_next 0 rfl (by assumption) (by assumption) (by omega) (by omega) ?_; intro v kq hv1 hv2 hkq) | (change vcFunD _ _ _ _ _; refine callD_next 0 rfl (by assumption) (by assumption) (by omega) (by omega) ?_; intro v kq hv1 hv2 hkq) | (refine app_wholem ?_) | (refine app_mfirst ?_) | (refine app_mlast ?_) | (refine app_cons ?_) | (refine app_lit ?_) | (refine set0p ?_) | (refine set0m ?_) | (refine row0_load ?_) | (refine lit_idx (by assumption) (by assumption) (fun kx hkx => ?_)) | (refine lit4_load rfl (by assumption) ?_ ?_ ?_ ?_) | (refine ⟨(24 + v).toNat, (24 + v).toNat, by omega, by omega, Nat.le_refl _, ?_⟩) | ((refine (?_ : Int.toNat _ * _ ≤ _); omega)) | (refine (eqv_rfl ?_ : eqv (List.replicate _ _) _)) | fail)
  all_goals try (refine ret_conv [0] [dice t kq] rfl rfl ⟨rfl, trivial⟩ rfl (by repeat' (first | exact True.intro | refine And.intro ?_ ?_ | (show 0 + _ ≤ List.length _; simp) | refine okL1 ?_)) rfl (fin_model kq hkq ?_ ?_ ?_))
  all_goals repeat' (first | exact SlOf.nil | refine SlOf.sl ?_ (by simp <;> omega) | exact RowsOf.map (by assumption) | exact RowsOf.map (f := eI) (fun _ _ => trivial) | exact RowsOf.nil | refine RowsOf.cons ?_ ?_ | refine RowsOf.app ?_ ?_ | refine RowsOf.take ?_ | refine RowsOf.drop ?_ | refine RowsOf.rep ?_ | exact RowOf.mk (by assumption) PLeL.refl | exact row_load | exact row_charge | refine row_count ?_ | refine row_pair (n := 1000) ?_ | refine row_opt ?_ | refine row_cls ?_)
end Go.Proofs.YtihpjcmloecaaaaGreat.Cw
/-
  Odd models: pairs and counts.
-/
namespace Go.Proofs.YtihpjcmloecaaaaGreat.Cw
open Go.Cw Go.Proofs
set_option linter.unusedVariables false
set_option maxRecDepth 100000
set_option maxHeartbeats 30000000
theorem c_odd110 (t : List Int) (k : Nat) (ht : t.length ≤ 400) (hk : k ≤ t.length) (p0 : Pair) (prs : List Pair) (c0 : Count) (cts : List Count) (ru : Int) (q1 : ∀ l ∈ ([] : List (List Opt)), ClsL l) (q3 : ∀ c ∈ (c0 :: cts : List Count), CntL c) (h1 : ([] : List (List Opt)).length ≤ 5) (h2 : (p0 :: prs : List Pair).length ≤ 200) (h3 : (c0 :: cts : List Count).length ≤ 6) (h4 : ∀ p ∈ (p0 :: prs : List Pair), p.table.length ≤ 100) :
    ACall Tryz.prog 33 [.ptr 0 2 0 0, ag (Model.cells ⟨[], p0 :: prs, c0 :: cts, ru⟩)] [dice t k] (fun r H' => ∃ (y : Model) (k' : Nat), k' ≤ t.length ∧ LaidX y ∧ Leq r (ag y.cells) ∧ H' = [dice t k']) := by
  have q2 : ∀ p ∈ (p0 :: prs : List Pair), YY p := fun _ _ => trivial
  have h5 := h4 p0 (by simp)
  obtain ⟨q2a, q2b⟩ := List.forall_mem_cons.1 q2
  simp only [List.length_cons] at h2
  obtain ⟨q3a, q3b⟩ := List.forall_mem_cons.1 q3
  simp only [List.length_cons] at h3
  dsimp only [Model.cells]
  refine acall_of tok mixed 126 rfl (fn := Tryz.f33) (c := Tryz.f33.body.getD .skip) (by kernel_rfl) (by kernel_rfl) (by kernel_rfl) rfl 1 rfl ?_
  repeat' (first | ((refine retL rfl rfl rfl ?_ rfl rfl rfl ?_; · repeat' (first | exact True.intro | refine And.intro ?_ ?_ | (show 0 + _ ≤ List.length _; simp) | refine okL1 ?_))) | ((refine ret0 rfl rfl rfl ?_ rfl rfl rfl ?_; · repeat' (first | exact True.intro | refine And.intro ?_ ?_ | (show 0 + _ ≤ List.length _; simp) | refine okL1 ?_))) | refine o1 ?_ | refine o2 ?_ | refine k1 ?_ | refine k2 ?_ | refine k3 ?_ | refine k4 ?_ | refine k7 ?_ | refine And.intro ?_ ?_ | refine o3 ?_ | refine o4 ?_ | (intro h; first | exact Bool.noConfusion h | exact nz _ h | exact nl h | (simp at h; done) | (simp at h; first | (exfalso; omega) | skip) | skip) | (refine (?_ : srcLen _ = rowsLen _); rfl) | exact Nat.le_of_ble_eq_true rfl | exact (by kernel_rfl : drawOk _ _ = true) | refine eqv_zero ?_ | refine eqv_wrap (by omega) (by omega) ?_ | (refine (?_ : _ ≤ 140737488355328); simp [rowsLen] <;> omega) | (refine (?_ : _ ≤ 9223372036854775807); simp [rowsLen] <;> omega) | (refine (?_ : _ = rowsLen _); simp [rowsLen] <;> omega) | refine idx_ms _ (by first | rfl | assumption) (by first | assumption | omega) ?_ | (change vcFun _ _ _ _ _; refine call_next 0 rfl (by assumption) (by assumption) (by omega) (by omega) ?_; intro v kq hv1 hv2 hkq) | (change vcFunD _ _ _ _ _; refine callD_next 0 rfl (by assumption) (by assumption) (by omega) (by omega) ?_; intro v kq hv1 hv2 hkq) | (refine app_wholem ?_) | (refine app_mfirst ?_) | (refine app_mlast ?_) | (refine app_cons ?_) | (refine app_lit ?_) | (refine set0p ?_) | (refine set0m ?_) | (refine row0_load ?_) | (refine lit_idx (by assumption) (by assumption) (fun kx hkx => ?_)) | (refine lit4_load rfl (by assumption) ?_ ?_ ?_ ?_) | (refine ⟨(24 + v).toNat, (24 + v).toNat, by omega, by omega, Nat.le_refl _, ?_⟩) | ((refine (?_ : Int.toNat _ * _ ≤ _); omega)) | (refine (eqv_rfl ?_ : eqv (List.replicate _ _) _)) | fail)
  all_goals try (refine ret_conv [0] [dice t kq] rfl rfl ⟨rfl, trivial⟩ rfl (by repeat' (first | exact True.intro | refine And.intro ?_ ?_ | (show 0 + _ ≤ List.length _; simp) | refine okL1 ?_)) rfl (fin_model kq hkq ?_ ?_ ?_))
  all_goals repeat' (first | exact SlOf.nil | refine SlOf.sl ?_ (by simp <;> omega) | exact RowsOf.map (by assumption) | exact RowsOf.map (f := eI) (fun _ _ => trivial) | exact RowsOf.nil | refine RowsOf.cons ?_ ?_ | refine RowsOf.app ?_ ?_ | refine RowsOf.take ?_ | refine RowsOf.drop ?_ | refine RowsOf.rep ?_ | exact RowOf.mk (by assumption) PLeL.refl | exact row_load | exact row_charge | refine row_count ?_ | refine row_pair (n := 1000) ?_ | refine row_opt ?_ | refine row_cls ?_)
theorem c_odd111 (t : List Int) (k : Nat) (ht : t.length ≤ 400) (hk : k ≤ t.length) (p0 : Pair) (prs : List Pair) (c0 : Count) (cts : List Count) (l0 : List Opt) (cls : List (List Opt)) (ru : Int) (q1 : ∀ l ∈ (l0 :: cls : List (List Opt)), ClsL l) (q3 : ∀ c ∈ (c0 :: cts : List Count), CntL c) (h1 : (l0 :: cls : List (List Opt)).length ≤ 5) (h2 : (p0 :: prs : List Pair).length ≤ 200) (h3 : (c0 :: cts : List Count).length ≤ 6) (h4 : ∀ p ∈ (p0 :: prs : List Pair), p.table.length ≤ 100) :
    ACall Tryz.prog 33 [.ptr 0 2 0 0, ag (Model.cells ⟨l0 :: cls, p0 :: prs, c0 :: cts, ru⟩)] [dice t k] (fun r H' => ∃ (y : Model) (k' : Nat), k' ≤ t.length ∧ LaidX y ∧ Leq r (ag y.cells) ∧ H' = [dice t k']) := by
  have q2 : ∀ p ∈ (p0 :: prs : List Pair), YY p := fun _ _ => trivial
  have h5 := h4 p0 (by simp)
  obtain ⟨q2a, q2b⟩ := List.forall_mem_cons.1 q2
  simp only [List.length_cons] at h2
  obtain ⟨q3a, q3b⟩ := List.forall_mem_cons.1 q3
  simp only [List.length_cons] at h3
  obtain ⟨q1a, q1b⟩ := List.forall_mem_cons.1 q1
  simp only [List.length_cons] at h1
  dsimp only [Model.cells]
  refine acall_of tok mixed 126 rfl (fn := Tryz.f33) (c := Tryz.f33.body.getD .skip) (by kernel_rfl) (by kernel_rfl) (by kernel_rfl) rfl 1 rfl ?_
  repeat' (first | ((refine retL rfl rfl rfl ?_ rfl rfl rfl ?_; · repeat' (first | exact True.intro | refine And.intro ?_ ?_ | (show 0 + _ ≤ List.length _; simp) | refine okL1 ?_))) | ((refine ret0 rfl rfl rfl ?_ rfl rfl rfl ?_; · repeat' (first | exact True.intro | refine And.intro ?_ ?_ | (show 0 + _ ≤ List.length _; simp) | refine okL1 ?_))) | refine o1 ?_ | refine o2 ?_ | refine k1 ?_ | refine k2 ?_ | refine k3 ?_ | refine k4 ?_ | refine k7 ?_ | refine And.intro ?_ ?_ | refine o3 ?_ | refine o4 ?_ | (intro h; first | exact Bool.noConfusion h | exact nz _ h | exact nl h | (simp at h; done) | (simp at h; first | (exfalso; omega) | skip) | skip) | (refine (?_ : srcLen _ = rowsLen _); rfl) | exact Nat.le_of_ble_eq_true rfl | exact (by kernel_rfl : drawOk _ _ = true) | refine eqv_zero ?_ | refine eqv_wrap (by omega) (by omega) ?_ | (refine (?_ : _ ≤ 140737488355328); simp [rowsLen] <;> omega) | (refine (?_ : _ ≤ 9223372036854775807); simp [rowsLen] <;> omega) | (refine (?_ : _ = rowsLen _); simp [rowsLen] <;> omega) | refine idx_ms _ (by first | rfl | assumption) (by first | assumption | omega) ?_ | (change vcFun _ _ _ _ _; refine call_next 0 rfl (by assumption) (by assumption) (by omega) (by omega) ?_; intro v kq hv1 hv2 hkq) | (change vcFunD _ _ _ _ _; refine callD_next 0 rfl (by assumption) (by assumption) (by omega) (by omega) ?_; intro v kq hv1 hv2 hkq) | (refine app_wholem ?_) | (refine app_mlast ?_) | (refine app_cons ?_) | (refine app_lit ?_) | (refine set0p ?_) | (refine set0m ?_) | (refine row0_load ?_) | (refine lit_idx (by assumption) (by assumption) (fun kx hkx => ?_)) | (refine lit4_load rfl (by assumption) ?_ ?_ ?_ ?_) | (refine ⟨(24 + v).toNat, (24 + v).toNat, by omega, by omega, Nat.le_refl _, ?_⟩) | ((refine (?_ : Int.toNat _ * _ ≤ _); omega)) | (refine (eqv_rfl ?_ : eqv (List.replicate _ _) _)) | fail)
  all_goals try (refine ret_conv [0] [dice t kq] rfl rfl ⟨rfl, trivial⟩ rfl (by repeat' (first | exact True.intro | refine And.intro ?_ ?_ | (show 0 + _ ≤ List.length _; simp))) rfl (fin_model kq hkq ?_ ?_ ?_))
  all_goals repeat' (first | exact SlOf.nil | refine SlOf.sl ?_ (by simp <;> omega) | exact RowsOf.map (by assumption) | exact RowsOf.map (f := eI) (fun _ _ => trivial) | exact RowsOf.nil | refine RowsOf.cons ?_ ?_ | refine RowsOf.app ?_ ?_ | refine RowsOf.take ?_ | refine RowsOf.drop ?_ | refine RowsOf.rep ?_ | exact RowOf.mk (by assumption) PLeL.refl | exact row_load | exact row_charge | refine row_count ?_ | refine row_pair (n := 1000) ?_ | refine row_opt ?_ | refine row_cls ?_)
end Go.Proofs.YtihpjcmloecaaaaGreat.Cw
/-
  Odd models: all ways together.
-/
namespace Go.Proofs.YtihpjcmloecaaaaGreat.Cw
open Go.Cw Go.Proofs
set_option linter.unusedVariables false
set_option maxRecDepth 100000
theorem c_oddmodel0 (t : List Int) (k : Nat) (ht : t.length ≤ 400) (hk : k ≤ t.length) (m : Model) (q1 : ∀ l ∈ m.classes, ClsL l) (q3 : ∀ c ∈ m.counts, CntL c) (h1 : m.classes.length ≤ 5) (h2 : m.pairs.length ≤ 200) (h3 : m.counts.length ≤ 6) (h4 : ∀ p ∈ m.pairs, p.table.length ≤ 100) :
    ACall Tryz.prog 33 [.ptr 0 2 0 0, ag m.cells] [dice t k] (fun r H' => ∃ (y : Model) (k' : Nat), k' ≤ t.length ∧ LaidX y ∧ Leq r (ag y.cells) ∧ H' = [dice t k']) := by
  obtain ⟨cls, prs, cts, ru⟩ := m
  rcases prs with _ | ⟨p0, prs⟩ <;> rcases cts with _ | ⟨c0, cts⟩ <;> rcases cls with _ | ⟨l0, cls⟩
  · exact c_odd000 t k ht hk ru q1 q3 h1 h2 h3 h4
  · exact c_odd001 t k ht hk l0 cls ru q1 q3 h1 h2 h3 h4
  · exact c_odd010 t k ht hk c0 cts ru q1 q3 h1 h2 h3 h4
  · exact c_odd011 t k ht hk c0 cts l0 cls ru q1 q3 h1 h2 h3 h4
  · exact c_odd100 t k ht hk p0 prs ru q1 q3 h1 h2 h3 h4
  · exact c_odd101 t k ht hk p0 prs l0 cls ru q1 q3 h1 h2 h3 h4
  · exact c_odd110 t k ht hk p0 prs c0 cts ru q1 q3 h1 h2 h3 h4
  · exact c_odd111 t k ht hk p0 prs c0 cts l0 cls ru q1 q3 h1 h2 h3 h4
end Go.Proofs.YtihpjcmloecaaaaGreat.Cw
/-
  Symmetry: the models of the laws.
-/
namespace Go.Proofs.YtihpjcmloecaaaaGreat.Cw
open Go Go.Cw Go.Proofs
set_option linter.unusedVariables false
set_option maxRecDepth 100000
set_option maxHeartbeats 8000000
theorem c_oddeven (t : List Int) (k : Nat) (ht : t.length ≤ 400) (hk : k ≤ t.length) (m : Model) (hm : EvM m) :
    ACall Tryz.prog 33 [.ptr 0 2 0 0, ag m.cells] [dice t k] (fun r H' => ∃ (y : Model) (k' : Nat), k' ≤ t.length ∧ LaidX y ∧ r = ag y.cells ∧ H' = [dice t k']) :=
  (c_oddmodel0 t k ht hk m (fun l hl => ⟨by have := (hm.cls l hl).le; omega, hm.laid.ch l hl⟩) hm.laid.ld hm.few hm.prs hm.cts hm.tabs).weak fun r H' ⟨y, k', g1, g2, g3, g4⟩ => ⟨_, g3.le, y, k', g1, g2, rfl, g4⟩
theorem c_model (t : List Int) (k : Nat) (ht : t.length ≤ 400) (hk : k ≤ t.length) :
    ACall Tryz.prog 11 [.ptr 0 2 0 0] [dice t k] (fun r H' => ∃ (m : Model) (k' : Nat), k' ≤ t.length ∧ LaidX m ∧ r = ag m.cells ∧ H' = [dice t k']) := by
  refine acall_of tok mixed 20 rfl (fn := Tryz.f11) (c := Tryz.f11.body.getD .skip) (by kernel_rfl) (by kernel_rfl) (by kernel_rfl) rfl 1 rfl ?_
  repeat' (first | ((change vcFun _ _ _ _ _; refine call_one (i := 0) rfl (fun _ _ => rfl) [.ptr 0 2 0 0, vint .i64 3, vint .i64 4] rfl (c_dmodel t kq ht hkq 3 4 ⟨by omega, by omega⟩ ⟨by omega, by omega⟩) ?_; rintro r H' ⟨m, ky, c1, c2, rfl, rfl⟩; refine ⟨_, rfl, fun _ _ => rfl, fun _ _ => rfl, ?_⟩)) | ((change vcFun _ _ _ _ _; refine call_one (i := 0) rfl (fun _ _ => rfl) [.ptr 0 2 0 0, vint .i64 3, vint .i64 2] rfl (c_even t kq ht hkq 3 2 (by omega) (by omega) (by omega)) ?_; rintro r H' ⟨m, ky, c1, c2, rfl, rfl⟩; refine ⟨_, rfl, fun _ _ => rfl, fun _ _ => rfl, ?_⟩)) | ((change vcFun _ _ _ _ _; refine call_one (i := 0) rfl (fun _ _ => rfl) [.ptr 0 2 0 0, ag m.cells] rfl (c_oddeven t ky ht c1 m c2) ?_; rintro r H' ⟨y, kz, d1, d2, rfl, rfl⟩; refine ⟨_, rfl, fun _ _ => rfl, fun _ _ => rfl, ?_⟩)) | refine o1 ?_ | refine o2 ?_ | refine k1 ?_ | refine k2 ?_ | refine k3 ?_ | refine k4 ?_ | refine k6 ?_ | refine k7 ?_ | refine And.intro ?_ ?_ | (intro h; first | exact Bool.noConfusion h | exact nz _ h | exact nl h | (simp at h; done) | (simp at h; first | (exfalso; omega) | skip) | skip) | exact (by kernel_rfl : drawOk _ _ = true) | refine eqv_wrap (by omega) (by omega) ?_ | (change vcFun _ _ _ _ _; refine call_next 0 rfl (by assumption) (by assumption) (by omega) (by omega) ?_; intro v kq hv1 hv2 hkq) | fail)
  · exact ret_obj [0] [dice t ky] rfl rfl ⟨rfl, trivial⟩ (r' := ag m.cells) rfl ⟨m, ky, c1, ⟨c2.laid, by have := c2.few; omega, fun l hl => by have := (c2.some_ l hl).2; omega⟩, rfl, rfl⟩
  · exact ret_obj [0] [dice t kz] rfl rfl ⟨rfl, trivial⟩ (r' := ag y.cells) rfl ⟨y, kz, d1, d2, rfl, rfl⟩
  obtain ⟨R, hR⟩ : ∃ R : Nat, 2 + v = (R : Int) := ⟨(2 + v).toNat, by omega⟩
  rw [hR]
  change vcFun _ _ _ _ _
  refine call_one (i := 0) rfl (fun _ _ => rfl) [.ptr 0 2 0 0, vint .i64 4, vint .i64 R] rfl (c_even t kq ht (by assumption) 4 R (by omega) (by omega) (by omega)) ?_
  rintro r H' ⟨m, ky, c1, c2, rfl, rfl⟩
  refine ⟨_, rfl, fun _ _ => rfl, fun _ _ => rfl, ?_⟩
  repeat' (first | refine o1 ?_ | refine o2 ?_ | refine k7 ?_ | fail)
  exact ret_obj [0] [dice t ky] rfl rfl ⟨rfl, trivial⟩ (r' := ag m.cells) rfl ⟨m, ky, c1, ⟨c2.laid, by have := c2.few; omega, fun l hl => by have := (c2.cls l hl).le; omega⟩, rfl, rfl⟩
end Go.Proofs.YtihpjcmloecaaaaGreat.Cw
/-
  Symmetry: whether two rooms can be exchanged, by the program.
-/
namespace Go.Proofs.YtihpjcmloecaaaaGreat.Cw
open Go Go.Cw Go.Proofs
set_option linter.unusedVariables false
set_option maxRecDepth 100000
set_option maxHeartbeats 8000000
noncomputable def imN (l : List Opt) (a b : Int) (i : Nat) : Nat := (swapO l a b i).getD 0
theorem ok_imN {l : List Opt} {a b : Int} {i : Nat} (h : okO l a b i) : swapO l a b i = some (imN l a b i) ∧ imN l a b i < l.length := by
  obtain ⟨j, o, q, h1, h2, h3, -⟩ := h
  have : imN l a b i = j := by unfold imN; rw [h1]; rfl
  rw [this]
  exact ⟨h1, (List.getElem?_eq_some_iff.1 h3).1⟩
theorem imgs_get {l : List Opt} {a b : Int} (h : imgsP l a b) : ∀ {n : Nat}, n ≤ l.length → imgsL l a b n = (List.range n).map (imN l a b)
  | 0, _ => rfl
  | n + 1, hn => by
    rw [imgs_succ (ok_imN (h n (by omega))).1, imgs_get h (by omega), List.range_succ, List.map_append]; rfl
theorem imgs_at {l : List Opt} {a b : Int} (h : imgsP l a b) {i : Nat} (hi : i < l.length) : (imgsL l a b l.length)[i]? = some (imN l a b i) := by
  rw [imgs_get h (Nat.le_refl _), List.getElem?_map, List.getElem?_range hi]; rfl
theorem imgs_whole {l : List Opt} {a b : Int} (h : imgsP l a b) : (imgsL l a b l.length).length = l.length := by
  rw [imgs_get h (Nat.le_refl _), List.length_map, List.length_range]
def allImg (m : Model) (a b : Int) : Prop := ∀ l ∈ m.classes, imgsP l a b
def entSame (m : Model) (a b : Int) (p : Pair) : Prop := ∀ (x y : List Opt), m.classes[p.first.toNat]? = some x → m.classes[p.second.toNat]? = some y → ∀ i, i < x.length → ∀ k, k < y.length → entZ m p i k = entZ m p (imN x a b i) (imN y a b k)
noncomputable def imLoad (m : Model) (a b : Int) (l : Load) : Int := match m.classes[l.cls.toNat]? with
  | some x => imN x a b l.opt.toNat
  | none => 0
def cntSame (m : Model) (a b : Int) : Prop := countsV Load.opt m.counts = countsV (imLoad m a b) m.counts
def swapP (m : Model) (a b : Int) : Prop := allImg m a b ∧ (∀ p ∈ m.pairs, entSame m a b p) ∧ cntSame m a b
noncomputable def imgsAll (m : Model) (a b : Int) : List (List Nat) := m.classes.map fun l => imgsL l a b l.length
noncomputable def swapV (m : Model) (a b : Int) : List (List Nat) := if pB (swapP m a b) then imgsAll m a b else []
theorem leq_sw {m : Model} {a b : Int} (h : ¬ swapP m a b) : Leq (.tup [.pv (.val (.slice none 0 0)), .pv (.val (.bool false))]) (.tup [.pv (.sl 1 ((swapV m a b).map natsRow)), vbool (pB (swapP m a b))]) := by
  unfold swapV
  rw [if_neg (by rw [pB_f h]; simp), pB_f h]
  exact ⟨ALe.tup ⟨ALe.pv PLe.nil, ALe.refl, trivial⟩⟩
theorem good_load {m : Model} (hg : goodP m) {c : Count} (hc : c ∈ m.counts) {l : Load} (hl : l ∈ c.loads) : optionP m l.cls l.opt ∧ 1 ≤ l.weight := by
  obtain ⟨i, hi⟩ := List.getElem?_of_mem hl
  have := (hg.2.2 c hc).2.2.2.2 i (List.getElem?_eq_some_iff.1 hi).1 l hi
  exact ⟨this.1, this.2.1⟩
theorem all_at {m : Model} {a b : Int} {k : Nat} {l : List Opt} (h : m.classes[k]? = some l) : (imgsAll m a b)[k]? = some (imgsL l a b l.length) := by
  unfold imgsAll; rw [List.getElem?_map, h]; rfl
theorem all_rows {m : Model} {a b : Int} {i : Nat} {l : List Opt} (h : m.classes[i]? = some l) : ((m.classes.take (i + 1)).map fun l => imgsL l a b l.length) = ((m.classes.take i).map fun l => imgsL l a b l.length) ++ [imgsL l a b l.length] := by
  rw [tk_snoc h, List.map_append]; rfl
theorem charges_ge {m : Model} {o : Opt} (h : chargesP m o) : ∀ {i : Nat} {c : Charge}, o.charges[i]? = some c → (i : Int) ≤ c.rule ∧ c.rule < m.rules
  | 0, c, hc => by
    have := h 0 (List.getElem?_eq_some_iff.1 hc).1 c hc
    exact ⟨this.1.1, this.1.2⟩
  | i + 1, c, hc => by
    have hi := (List.getElem?_eq_some_iff.1 hc).1
    obtain ⟨b, hb⟩ := getE (show i < o.charges.length by omega)
    have ih := charges_ge h hb
    have := h (i + 1) hi c hc
    have h2 := this.2.2 i b rfl hb
    exact ⟨by omega, this.1.2⟩
theorem charges_len {m : Model} {o : Opt} (h : chargesP m o) (hr : m.rules ≤ 56) : o.charges.length ≤ 56 := by
  rcases Nat.eq_zero_or_pos o.charges.length with h0 | h0
  · omega
  · obtain ⟨c, hc⟩ := getE (show o.charges.length - 1 < o.charges.length by omega)
    have := charges_ge h hc
    omega
theorem loads_ge {m : Model} {c : Count} (hz : ∀ l ∈ m.classes, l.length ≤ 24) (h : ∀ i, i < c.loads.length → loadAt m c.loads i) : ∀ {i : Nat} {x : Load}, c.loads[i]? = some x → (i : Int) ≤ x.cls * 24 + x.opt ∧ 0 ≤ x.cls ∧ x.cls < m.classes.length ∧ 0 ≤ x.opt ∧ x.opt < 24
  | i, x, hx => by
    have hi := (List.getElem?_eq_some_iff.1 hx).1
    have hh := h i hi x hx
    obtain ⟨h1, h2, l, h3, h4⟩ := hh.1
    have h5 := hz l (List.mem_of_getElem? h3)
    have h6 := (List.getElem?_eq_some_iff.1 h3).1
    cases i with
    | zero => omega
    | succ i =>
      obtain ⟨y, hy⟩ := getE (show i < c.loads.length by omega)
      have ih := loads_ge hz h hy
      have h7 := hh.2.2.2 i y rfl hy
      omega
theorem loads_len {m : Model} {c : Count} (hz : sizedP m) (h : ∀ i, i < c.loads.length → loadAt m c.loads i) : c.loads.length ≤ 576 := by
  rcases Nat.eq_zero_or_pos c.loads.length with h0 | h0
  · omega
  · obtain ⟨x, hx⟩ := getE (show c.loads.length - 1 < c.loads.length by omega)
    have := loads_ge hz.2.1 h hx
    have h1 := hz.1
    omega
theorem c_swap2m {m : Model} {a b : Int} (ha : allImg m a b) {x : Load} (hx : optionP m x.cls x.opt) : PCall Tryz.prog 85 [ag x.row, .pv (.ia [.sl 1 ((imgsAll m a b).map natsRow)])] (fun r => r = vint .i64 (imLoad m a b x)) := by
  obtain ⟨h1, h2, l, h3, h4⟩ := hx
  have e : imLoad m a b x = (imN l a b x.opt.toNat : Int) := by unfold imLoad; rw [h3]
  rw [e]
  exact c_swap2 _ x _ _ h1 h2 (all_at h3) (imgs_at (ha l (List.mem_of_getElem? h3)) (by omega))
theorem c_swapM0 (m : Model) (a b : Int) (hz : sizedP m) (hg : goodP m) : PCall Tryz.prog 35 [ag m.cells, vint .i64 a, vint .i64 b] (fun r => Leq r (.tup [.pv (.sl 1 ((swapV m a b).map natsRow)), vbool (pB (swapP m a b))])) := by
  have hld : ∀ c ∈ m.counts, c.loads.length ≤ 576 := fun c hc => loads_len hz (hg.2.2 c hc).2.2.2.2
  obtain ⟨z1, z2, z3, z4, z5⟩ := hz
  refine acall_of tok mixed 95 rfl (fn := Tryz.f35) (c := Tryz.f35.body.getD .skip) (by kernel_rfl) (by kernel_rfl) (by kernel_rfl) rfl 0 rfl ?_
  repeat' (first | refine o1 ?_ | refine o2 ?_ | refine k1 ?_ | refine k2 ?_ | refine k4 ?_ | refine And.intro ?_ ?_ | exact (by kernel_rfl : drawOk _ _ = true) | refine eqv_len_map ?_ | fail)
  refine loop_for (fun i : Nat => [(1, vint .i64 a), (2, vint .i64 b), (3, .ptr 0 4 0 0), (8, .ptr 1 1 0 0), (22, .pv (.sl 1 (m.classes.map optsRow))), (23, vint .i64 m.classes.length), (24, vint .i64 i)])
    (fun i => [some ⟨29, 4, false, .box (pvs m.cells)⟩, some ⟨35, 1, false, .box [slP 2 1 (((m.classes.take i).map fun l => imgsL l a b l.length).map natsRow)]⟩, obP 22 1 (((m.classes.take i).map fun l => imgsL l a b l.length).map natsRow)])
    (fun i => i ≤ m.classes.length ∧ ∀ j, j < i → ∀ l, m.classes[j]? = some l → imgsP l a b) (fun i => m.classes.length - i) 0 ⟨Nat.zero_le _, fun j hj => by omega⟩ ?_ ?_
  · exact back [0, 1, 2] rfl rfl (by repeat' (first | exact trivial | exact rfl | refine And.intro ?_ ?_)) (by repeat' (first | exact trivial | exact rfl | refine And.intro ?_ ?_))
  intro i ⟨hi, hall⟩
  rcases Nat.lt_or_ge i m.classes.length with hlt | hge
  · obtain ⟨l, hl⟩ := getE hlt
    have hlm := List.mem_of_getElem? hl
    have him := c_images l a b (by have := z2 l hlm; omega) (fun o ho => by have := charges_len (hg.1 l hlm o ho) z5.2; omega)
    have htl : ((m.classes.take i).map fun l => imgsL l a b l.length).length ≤ 24 := by rw [List.length_map]; exact Nat.le_trans (List.length_take_le' ..) z1
    by_cases hp : imgsP l a b
    · have hV : imgsV l a b = imgsL l a b l.length := by unfold imgsV; rw [if_pos (pB_t hp)]
      have hnx := all_rows (a := a) (b := b) hl
      rw [pB_t hp, hV] at him
      generalize hRS : ((m.classes.take i).map fun l => imgsL l a b l.length) = RS at *
      repeat' (first | (refine fv_sl ?_) | (refine fh_ob ?_) | (refine idx_sl (k := i) (at_map hl) rfl ?_) | ((change vcFun _ _ _ _ _; refine call_frz rfl (by repeat' (first | trivial | refine And.intro ?_ ?_ | (show 0 + _ ≤ List.length _; simp))) ALeL.refl him ?_; rintro _ rfl)) | ((refine o_app rfl rfl rfl rfl rfl rfl rfl rfl rfl rfl rfl (by rw [List.length_map]; omega) (by rw [List.length_map]; omega) ?_)) | refine o1 ?_ | refine o2 ?_ | refine k1 ?_ | refine k2 ?_ | refine k3 ?_ | refine k4 ?_ | refine k6 ?_ | refine And.intro ?_ ?_ | (intro h; first | exact Bool.noConfusion h | exact nz _ h | exact nl h | (simp at h; done) | (simp at h; first | (exfalso; omega) | skip) | skip) | refine eqv_wrap (by omega) (by omega) ?_ | fail)
      refine ⟨i + 1, ⟨by omega, all_lt_succ hall fun l' h' => by rw [hl] at h'; cases h'; exact hp⟩, by omega, ?_⟩
      rw [hnx, map_snoc, sl_app, ob_app]
      exact back [0, 1, 4] rfl rfl (by repeat' (first | exact trivial | exact rfl | refine And.intro ?_ ?_)) (by repeat' (first | exact trivial | exact rfl | refine And.intro ?_ ?_))
    · rw [pB_f hp] at him
      have hno := leq_sw (m := m) (a := a) (b := b) fun k => hp (k.1 l hlm)
      repeat' (first | (refine fh_ob ?_) | (refine idx_sl (k := i) (at_map hl) rfl ?_) | ((change vcFun _ _ _ _ _; refine call_frz rfl (by repeat' (first | trivial | refine And.intro ?_ ?_ | (show 0 + _ ≤ List.length _; simp))) ALeL.refl him ?_; rintro _ rfl)) | refine o1 ?_ | refine o2 ?_ | refine k1 ?_ | refine k2 ?_ | refine k3 ?_ | refine k4 ?_ | refine k6 ?_ | refine k7 ?_ | refine And.intro ?_ ?_ | (intro h; first | exact Bool.noConfusion h | exact nz _ h | exact nl h | (simp at h; done) | (simp at h; first | (exfalso; omega) | skip) | skip) | (change retOk _ _ _ _; refine ret_pure rfl trivial ?_) | fail)
      exact hno
  · obtain rfl : i = m.classes.length := by omega
    rw [List.take_length]
    have hal : allImg m a b := fun l hl => by
      obtain ⟨j, hj⟩ := List.getElem?_of_mem hl
      exact hall j (List.getElem?_eq_some_iff.1 hj).1 l hj
    refine forceH_in ?_
    change xCode _ _ _ _ _ _ _ [_, some ⟨_, _, _, .box [slP 2 1 ((imgsAll m a b).map natsRow)]⟩, obP _ 1 ((imgsAll m a b).map natsRow)]
    refine ghost_seq (Γ' := [(1, vint .i64 a), (2, vint .i64 b), (3, .ptr 0 4 0 0), (8, .ptr 1 1 0 0), (23, vint .i64 m.classes.length), (24, vint .i64 m.classes.length)]) (H' := [some ⟨29, 4, false, .box (pvs m.cells)⟩, some ⟨35, 1, false, .box [.pv (.sl 1 ((imgsAll m a b).map natsRow))]⟩]) (Ghost.shut_sl (i := 1) (c := 0) (id := 2) rfl rfl rfl (by decide) fun H' hl h2 hH => back [0, 1] rfl rfl (And.intro (hH 0 (by decide) (by decide)) (And.intro h2 trivial)) (by repeat' (first | exact trivial | exact rfl | refine And.intro ?_ ?_))) ?_
    repeat' (first | refine o1 ?_ | refine o2 ?_ | refine k1 ?_ | refine k2 ?_ | refine k3 ?_ | refine k4 ?_ | refine k8 ?_ | refine And.intro ?_ ?_ | (intro h; first | exact Bool.noConfusion h | exact nz _ h | exact nl h | (simp at h; done) | (simp at h; first | (exfalso; omega) | skip) | skip) | refine eqv_len_map ?_ | fail)
    refine loop_for (fun i : Nat => [(3, .ptr 0 4 0 0), (8, .ptr 1 1 0 0), (43, .pv (.sl 4 (m.pairs.map Pair.row))), (44, vint .i64 m.pairs.length), (45, vint .i64 i)])
      (fun i => [some ⟨29, 4, false, .box (pvs m.cells)⟩, some ⟨35, 1, false, .box [.pv (.sl 1 ((imgsAll m a b).map natsRow))]⟩])
      (fun i => i ≤ m.pairs.length ∧ ∀ j, j < i → ∀ p, m.pairs[j]? = some p → entSame m a b p) (fun i => m.pairs.length - i) 0 ⟨Nat.zero_le _, fun j hj => by omega⟩ (back [0, 1] rfl rfl (by repeat' (first | exact trivial | exact rfl | refine And.intro ?_ ?_)) (by repeat' (first | exact trivial | exact rfl | refine And.intro ?_ ?_))) ?_
    intro i ⟨hi, hpa⟩
    rcases Nat.lt_or_ge i m.pairs.length with hlt | hge2
    · obtain ⟨p, hp⟩ := getE hlt
      have hpp := (hg.2.1 i hlt p hp).1
      obtain ⟨q1, q2, q3, ⟨x, y, hx, hy, q4⟩, q5⟩ := id hpp
      have hxa := hal x (List.mem_of_getElem? hx)
      have hya := hal y (List.mem_of_getElem? hy)
      have hxl := z2 x (List.mem_of_getElem? hx)
      have hyl := z2 y (List.mem_of_getElem? hy)
      have hxw := imgs_whole hxa
      have hyw := imgs_whole hya
      have hax := all_at (a := a) (b := b) hx
      have hay := all_at (a := a) (b := b) hy
      have hix := fun i hi => imgs_at hxa (i := i) hi
      have hiy := fun i hi => imgs_at hya (i := i) hi
      generalize imgsL x a b x.length = IX at hxw hax hix
      generalize imgsL y a b y.length = IY at hyw hay hiy
      obtain ⟨p1, p2, p3, p4⟩ := p
      dsimp only at q2 q3 hx hy hax hay
      have hk1 : p1 = (p1.toNat : Int) := by omega
      have hk2 : p2 = (p2.toNat : Int) := by omega
      repeat' (first | (refine idx_sl (k := i) (at_map hp) rfl ?_) | (refine idx_sl (k := p1.toNat) (at_map hax) hk1 ?_) | refine o1 ?_ | refine o2 ?_ | refine k1 ?_ | refine k2 ?_ | refine k3 ?_ | refine k4 ?_ | refine k6 ?_ | refine And.intro ?_ ?_ | (intro h; first | exact Bool.noConfusion h | exact nz _ h | exact nl h | (simp at h; done) | (simp at h; first | (exfalso; omega) | skip) | skip) | exact (by kernel_rfl : drawOk _ _ = true) | refine eqv_len_map ?_ | fail)
      refine loop_for (fun u : Nat => [(3, .ptr 0 4 0 0), (8, .ptr 1 1 0 0), (43, .pv (.sl 4 (m.pairs.map Pair.row))), (44, vint .i64 m.pairs.length), (45, vint .i64 i), (14, .ptr 2 4 0 0), (53, .pv (.sl 1 (IX.map natRow))), (54, vint .i64 IX.length), (55, vint .i64 u)])
        (fun u => [some ⟨29, 4, false, .box (pvs m.cells)⟩, some ⟨35, 1, false, .box [.pv (.sl 1 ((imgsAll m a b).map natsRow))]⟩, some ⟨72, 4, false, .box (pvs (Pair.row ⟨p1, p2, p3, p4⟩))⟩])
        (fun u => u ≤ x.length ∧ ∀ j, j < u → ∀ k, k < y.length → entZ m ⟨p1, p2, p3, p4⟩ j k = entZ m ⟨p1, p2, p3, p4⟩ (imN x a b j) (imN y a b k)) (fun u => x.length - u) 0 ⟨Nat.zero_le _, fun j hj => by omega⟩ (back [0, 1, 2] rfl rfl (by repeat' (first | exact trivial | exact rfl | refine And.intro ?_ ?_)) (by repeat' (first | exact trivial | exact rfl | refine And.intro ?_ ?_))) ?_
      intro u ⟨hu, hua⟩
      rcases Nat.lt_or_ge u x.length with hul | hug
      · repeat' (first | (refine idx_sl (k := u) (at_map (hix u hul)) rfl ?_) | (refine idx_sl (k := p2.toNat) (at_map hay) hk2 ?_) | refine o1 ?_ | refine o2 ?_ | refine k1 ?_ | refine k2 ?_ | refine k3 ?_ | refine k4 ?_ | refine k6 ?_ | refine And.intro ?_ ?_ | (intro h; first | exact Bool.noConfusion h | exact nz _ h | exact nl h | (simp at h; done) | (simp at h; first | (exfalso; omega) | skip) | skip) | refine eqv_len_map ?_ | fail)
        refine loop_for (fun k : Nat => [(3, .ptr 0 4 0 0), (8, .ptr 1 1 0 0), (43, .pv (.sl 4 (m.pairs.map Pair.row))), (44, vint .i64 m.pairs.length), (45, vint .i64 i), (14, .ptr 2 4 0 0), (53, .pv (.sl 1 (IX.map natRow))), (54, vint .i64 IX.length), (55, vint .i64 u), (15, vint .i64 u), (16, vint .i64 (imN x a b u)), (64, .pv (.sl 1 (IY.map natRow))), (65, vint .i64 IY.length), (66, vint .i64 k)])
          (fun k => [some ⟨29, 4, false, .box (pvs m.cells)⟩, some ⟨35, 1, false, .box [.pv (.sl 1 ((imgsAll m a b).map natsRow))]⟩, some ⟨72, 4, false, .box (pvs (Pair.row ⟨p1, p2, p3, p4⟩))⟩])
          (fun k => k ≤ y.length ∧ ∀ j, j < k → entZ m ⟨p1, p2, p3, p4⟩ u j = entZ m ⟨p1, p2, p3, p4⟩ (imN x a b u) (imN y a b j)) (fun k => y.length - k) 0 ⟨Nat.zero_le _, fun j hj => by omega⟩ (back [0, 1, 2] rfl rfl (by repeat' (first | exact trivial | exact rfl | refine And.intro ?_ ?_)) (by repeat' (first | exact trivial | exact rfl | refine And.intro ?_ ?_))) ?_
        intro k ⟨hk, hka⟩
        rcases Nat.lt_or_ge k y.length with hkl | hkg
        · obtain ⟨-, hju⟩ := ok_imN (hxa u hul)
          obtain ⟨-, hjk⟩ := ok_imN (hya k hkl)
          have hE1 := c_pentry m ⟨p1, p2, p3, p4⟩ u k y _ (by show 0 ≤ p2; omega) hy (by omega) (by omega) (by omega) (entZ_at hx hy hpp hul hkl)
          have hE2 := c_pentry m ⟨p1, p2, p3, p4⟩ (imN x a b u) (imN y a b k) y _ (by show 0 ≤ p2; omega) hy (by omega) (by omega) (by omega) (entZ_at hx hy hpp hju hjk)
          have hne : ¬ entZ m ⟨p1, p2, p3, p4⟩ u k = entZ m ⟨p1, p2, p3, p4⟩ (imN x a b u) (imN y a b k) → ¬ swapP m a b := fun h h2 => h (h2.2.1 _ (List.mem_of_getElem? hp) x y hx hy u hul k hkl)
          generalize hZ1 : entZ m ⟨p1, p2, p3, p4⟩ u k = Z1 at *
          generalize hZ2 : entZ m ⟨p1, p2, p3, p4⟩ (imN x a b u) (imN y a b k) = Z2 at *
          generalize hIU : imN x a b u = IU at *
          generalize hIK : imN y a b k = IK at *
          repeat' (first | (refine idx_sl (k := k) (at_map ((hiy k hkl).trans (congrArg some hIK))) rfl ?_) | refine o1 ?_ | refine o2 ?_ | refine k1 ?_ | refine k2 ?_ | refine k3 ?_ | refine k4 ?_ | refine k6 ?_ | refine k7 ?_ | refine And.intro ?_ ?_ | refine o3 ?_ | refine o4 ?_ | (intro h; first | exact Bool.noConfusion h | exact nz _ h | exact nl h | (simp at h; done) | (simp at h; first | (exfalso; omega) | skip) | skip) | (change retOk _ _ _ _; refine ret_pure rfl trivial ?_) | exact (by kernel_rfl : drawOk _ _ = true) | refine eqv_wrap (by omega) (by omega) ?_ | (change vcFunD _ _ _ _ _; refine callD_eq rfl (by repeat' (first | trivial | refine And.intro ?_ ?_ | (show 0 + _ ≤ List.length _; simp))) ALeL.refl (hE1) rfl ?_) | (change vcFunD _ _ _ _ _; refine callD_eq rfl (by repeat' (first | trivial | refine And.intro ?_ ?_ | (show 0 + _ ≤ List.length _; simp))) ALeL.refl (hE2) rfl ?_) | fail)
          all_goals first
            | exact leq_sw (hne (by assumption))
            | exact ⟨k + 1, ⟨by omega, all_lt_succ hka (by rw [hZ1, hIK, hZ2]; first | assumption | (exact Classical.not_not.1 (by assumption)))⟩, by omega, back [0, 1, 2] rfl rfl (by repeat' (first | exact trivial | exact rfl | refine And.intro ?_ ?_)) (by repeat' (first | exact trivial | exact rfl | refine And.intro ?_ ?_))⟩
        · obtain rfl : k = y.length := by omega
          repeat' (first | refine o1 ?_ | refine o2 ?_ | refine k1 ?_ | refine k2 ?_ | refine k3 ?_ | refine k8 ?_ | refine And.intro ?_ ?_ | (intro h; first | exact Bool.noConfusion h | exact nz _ h | exact nl h | (simp at h; done) | (simp at h; first | (exfalso; omega) | skip) | skip) | refine eqv_wrap (by omega) (by omega) ?_ | fail)
          exact ⟨u + 1, ⟨by omega, all_lt_succ hua fun j hj => hka j hj⟩, by omega, back [0, 1, 2] rfl rfl (by repeat' (first | exact trivial | exact rfl | refine And.intro ?_ ?_)) (by repeat' (first | exact trivial | exact rfl | refine And.intro ?_ ?_))⟩
      · obtain rfl : u = x.length := by omega
        repeat' (first | refine o1 ?_ | refine o2 ?_ | refine k1 ?_ | refine k2 ?_ | refine k3 ?_ | refine k8 ?_ | refine And.intro ?_ ?_ | (intro h; first | exact Bool.noConfusion h | exact nz _ h | exact nl h | (simp at h; done) | (simp at h; first | (exfalso; omega) | skip) | skip) | refine eqv_wrap (by omega) (by omega) ?_ | fail)
        exact ⟨i + 1, ⟨by omega, all_lt_succ hpa fun p' h' x' y' hx' hy' j hj k hk => by
          rw [hp] at h'; cases h'
          dsimp only at hx' hy'
          rw [hx] at hx'; cases hx'
          rw [hy] at hy'; cases hy'
          exact hua j hj k hk⟩, by omega, back [0, 1] rfl rfl (by repeat' (first | exact trivial | exact rfl | refine And.intro ?_ ?_)) (by repeat' (first | exact trivial | exact rfl | refine And.intro ?_ ?_))⟩
    · obtain rfl : i = m.pairs.length := by omega
      have hb := c_counts m 84 [] Load.opt (by omega) (fun c hc => by have := hld c hc; omega) (fun c hc l hl => c_swap1 l)
      have haf := c_counts m 85 [.ia [.sl 1 ((imgsAll m a b).map natsRow)]] (imLoad m a b) (by omega) (fun c hc => by have := hld c hc; omega) (fun c hc l hl => c_swap2m hal (good_load hg hc hl).1)
      have hlen : ∀ g, (countsV g m.counts).length ≤ 100000 := fun g => by unfold countsV; rw [srt_len, List.length_map]; omega
      have hll : ∀ g, ∀ c ∈ countsV g m.counts, c.loads.length ≤ 100000 := fun g c hc => by
        obtain ⟨d, hd, rfl⟩ := List.mem_map.1 ((srt_perm _).subset hc)
        have := hld d hd
        show (srt ldC (d.loads.map (optL g))).length ≤ _
        rw [srt_len, List.length_map]; omega
      have heq := c_equalC (countsV Load.opt m.counts) (countsV (imLoad m a b) m.counts) (hlen _) (hlen _) (hll _) (hll _)
      by_cases hcs : cntSame m a b
      · have hcs' : countsV Load.opt m.counts = countsV (imLoad m a b) m.counts := hcs
        rw [pB_t hcs'] at heq
        repeat' (first | ((change vcFun _ _ _ _ _; refine call_frz rfl (by repeat' (first | trivial | refine And.intro ?_ ?_ | (show 0 + _ ≤ List.length _; simp))) ALeL.refl hb ?_; rintro _ rfl)) | ((change vcFun _ _ _ _ _; refine call_frz rfl (by repeat' (first | trivial | refine And.intro ?_ ?_ | (show 0 + _ ≤ List.length _; simp))) ALeL.refl haf ?_; rintro _ rfl)) | refine o1 ?_ | refine o2 ?_ | refine k1 ?_ | refine k2 ?_ | refine k3 ?_ | refine k6 ?_ | refine k7 ?_ | refine k8 ?_ | refine And.intro ?_ ?_ | (intro h; first | exact Bool.noConfusion h | exact nz _ h | exact nl h | (simp at h; done) | (simp at h; first | (exfalso; omega) | skip) | skip) | (change retOk _ _ _ _; refine ret_pure rfl trivial ?_) | (change vcFun _ _ _ _ _; refine call_eq rfl (by repeat' (first | trivial | refine And.intro ?_ ?_ | (show 0 + _ ≤ List.length _; simp))) ALeL.refl (heq) rfl ?_) | fail)
        have hP : swapP m a b := ⟨hal, fun p hp => by
          obtain ⟨j, hj⟩ := List.getElem?_of_mem hp
          exact hpa j (List.getElem?_eq_some_iff.1 hj).1 p hj, hcs⟩
        rw [pB_t hP]
        unfold swapV
        rw [if_pos (pB_t hP)]
        exact ⟨ALe.refl⟩
      · have hcs' : ¬ countsV Load.opt m.counts = countsV (imLoad m a b) m.counts := hcs
        rw [pB_f hcs'] at heq
        repeat' (first | ((change vcFun _ _ _ _ _; refine call_frz rfl (by repeat' (first | trivial | refine And.intro ?_ ?_ | (show 0 + _ ≤ List.length _; simp))) ALeL.refl hb ?_; rintro _ rfl)) | ((change vcFun _ _ _ _ _; refine call_frz rfl (by repeat' (first | trivial | refine And.intro ?_ ?_ | (show 0 + _ ≤ List.length _; simp))) ALeL.refl haf ?_; rintro _ rfl)) | refine o1 ?_ | refine o2 ?_ | refine k1 ?_ | refine k2 ?_ | refine k3 ?_ | refine k7 ?_ | refine k8 ?_ | refine And.intro ?_ ?_ | (intro h; first | exact Bool.noConfusion h | exact nz _ h | exact nl h | (simp at h; done) | (simp at h; first | (exfalso; omega) | skip) | skip) | (change retOk _ _ _ _; refine ret_pure rfl trivial ?_) | (change vcFun _ _ _ _ _; refine call_eq rfl (by repeat' (first | trivial | refine And.intro ?_ ?_ | (show 0 + _ ≤ List.length _; simp))) ALeL.refl (heq) rfl ?_) | fail)
        exact leq_sw fun k => hcs k.2.2
theorem c_swapM (m : Model) (a b : Int) (hz : sizedP m) (hg : goodP m) : PCall Tryz.prog 35 [ag m.cells, vint .i64 a, vint .i64 b] (fun r => r = .tup [.pv (.sl 1 ((swapV m a b).map natsRow)), vbool (pB (swapP m a b))]) :=
  (c_swapM0 m a b hz hg).weak fun r k => ⟨_, k.le, rfl⟩
end Go.Proofs.YtihpjcmloecaaaaGreat.Cw
/-
  Symmetry: exchanges by the reference: the images, charges, weights.
-/
namespace Go.Proofs.YtihpjcmloecaaaaGreat.Cw
open Go Go.Cw Go.Proofs
set_option linter.unusedVariables false
set_option maxRecDepth 100000
set_option maxHeartbeats 8000000
theorem c_exch (r a b : Int) : PCall Tryz.prog 37 [vint .i64 r, vint .i64 a, vint .i64 b] (fun x => x = vint .i64 (exch r a b)) := by
  refine acall_of tok mixed 16 rfl (fn := Tryz.f37) (c := Tryz.f37.body.getD .skip) (by kernel_rfl) (by kernel_rfl) (by kernel_rfl) rfl 0 rfl ?_
  repeat' (first | refine o1 ?_ | refine o2 ?_ | refine k1 ?_ | refine k2 ?_ | refine k3 ?_ | refine k6 ?_ | refine k7 ?_ | refine And.intro ?_ ?_ | (intro h; first | exact Bool.noConfusion h | exact nz _ h | exact nl h | (simp at h; done) | (simp at h; first | (exfalso; omega) | skip) | skip) | (change retOk _ _ _ _; refine ret_pure rfl trivial ?_) | fail)
  all_goals first
    | exact congrArg (vint .i64) (exch_a (by assumption)).symm
    | exact congrArg (vint .i64) (exch_b (by assumption) (by assumption)).symm
    | exact congrArg (vint .i64) (exch_n (by assumption) (by assumption)).symm
    | (subst_vars; simp_all [exch]; done)
theorem place_ext {p q : Placed} (h1 : p.time.weeks = q.time.weeks) (h2 : p.time.day = q.time.day) (h3 : p.time.start = q.time.start) (h4 : p.time.len = q.time.len) (h5 : p.room = q.room) : p = q := by
  obtain ⟨⟨a, b, c, d⟩, e⟩ := p
  obtain ⟨⟨a', b', c', d'⟩, e'⟩ := q
  simp only at h1 h2 h3 h4 h5
  subst h1; subst h2; subst h3; subst h4; subst h5; rfl
def movI : Option Nat → Int
  | some j => j
  | none => -1
theorem c_moved (l : List Opt) (i : Nat) (r : Int) (hl : l.length ≤ 1000) (hi : i < l.length) : PCall Tryz.prog 36 [.pv (.sl 6 (l.map Opt.row)), vint .i64 i, vint .i64 r] (fun x => x = vint .i64 (movI (imgO l i r))) := by
  obtain ⟨o, ho⟩ := getE hi
  have himg : imgO l i r = (sameP l (withRoom o.place r) l.length)[(sameP l o.place i).length]? := by unfold imgO; rw [ho]
  rw [himg]
  have hK := sameP_len (l := l) (p := o.place) (n := i)
  refine acall_of tok mixed 55 rfl (fn := Tryz.f36) (c := Tryz.f36.body.getD .skip) (by kernel_rfl) (by kernel_rfl) (by kernel_rfl) rfl 0 rfl ?_
  repeat' (first | refine o1 ?_ | refine o2 ?_ | refine k1 ?_ | refine k2 ?_ | refine k4 ?_ | fail)
  refine loop_at (fun u : Nat => [(7, vint .i64 (sameP l o.place u).length), (8, vint .i64 u)]) (fun _ => []) (fun u => u ≤ i) (fun u => i - u) 0 (Nat.zero_le _) (by repeat' (first | exact trivial | exact ⟨_, rfl, ALe.refl⟩ | refine And.intro ?_ ?_)) (by repeat' (first | exact trivial)) ?_
  intro u hu
  rcases Nat.lt_or_ge u i with hui | hui
  · obtain ⟨q, hq⟩ := getE (show u < l.length by omega)
    by_cases hqo : q.place = o.place
    · have hs := sameP_succ_t (placed_t hq hqo)
      have hls := sameP_len (l := l) (p := o.place) (n := u)
      have e1 : (sameP l o.place (u + 1)).length = (sameP l o.place u).length + 1 := by rw [hs, List.length_append]; rfl
      have hq1 := congrArg (fun p : Placed => p.time.weeks) hqo
      have hq2 := congrArg (fun p : Placed => p.time.day) hqo
      have hq3 := congrArg (fun p : Placed => p.time.start) hqo
      have hq4 := congrArg (fun p : Placed => p.time.len) hqo
      have hq5 := congrArg (fun p : Placed => p.room) hqo
      have hback : ∀ {x : Nat}, x = u + 1 → (vint .i64 ((sameP l o.place x).length : Nat)) = vint .i64 ((sameP l o.place u).length + 1 : Nat) := fun e => by subst e; rw [e1]
      generalize hKK : (sameP l o.place u).length = K at *
      repeat' (first | (refine idx_sl (k := u) (at_map hq) (by omega) ?_) | (refine idx_sl (k := i) (at_map ho) (by omega) ?_) | refine o1 ?_ | refine o2 ?_ | refine k1 ?_ | refine k2 ?_ | refine k3 ?_ | refine k4 ?_ | refine k6 ?_ | refine And.intro ?_ ?_ | refine o3 ?_ | refine o4 ?_ | (intro h; first | exact Bool.noConfusion h | exact nz _ h | exact nl h | (simp at h; done) | (simp at h; first | (exfalso; omega) | skip) | skip) | exact (by kernel_rfl : drawOk _ _ = true) | refine eqv_wrap (by omega) (by omega) ?_ | fail)
      all_goals first
        | (exfalso; omega)
        | exact ⟨u + 1, by omega, by omega, by rw [e1]; exact back [] rfl rfl trivial (by repeat' (first | exact trivial | exact rfl | refine And.intro ?_ ?_))⟩
    · have hs := sameP_succ_f (placed_f hq hqo)
      repeat' (first | (refine idx_sl (k := u) (at_map hq) (by omega) ?_) | (refine idx_sl (k := i) (at_map ho) (by omega) ?_) | refine o1 ?_ | refine o2 ?_ | refine k1 ?_ | refine k2 ?_ | refine k3 ?_ | refine k4 ?_ | refine k6 ?_ | refine And.intro ?_ ?_ | refine o3 ?_ | refine o4 ?_ | (intro h; first | exact Bool.noConfusion h | exact nz _ h | exact nl h | (simp at h; done) | (simp at h; first | (exfalso; omega) | skip) | skip) | exact (by kernel_rfl : drawOk _ _ = true) | refine eqv_wrap (by omega) (by omega) ?_ | fail)
      all_goals first
        | (exfalso; rename_i h; exact hqo (place_ext h.1.1 h.1.2.1 h.1.2.2.1 h.1.2.2.2 h.2))
        | exact ⟨u + 1, by omega, by omega, by rw [hs]; exact back [] rfl rfl trivial (by repeat' (first | exact trivial | exact rfl | refine And.intro ?_ ?_))⟩
  · obtain rfl : u = i := by omega
    generalize hKK : (sameP l o.place u).length = K at *
    repeat' (first | (refine idx_sl (k := u) (at_map ho) (by omega) ?_) | refine o1 ?_ | refine o2 ?_ | refine k1 ?_ | refine k2 ?_ | refine k3 ?_ | refine k4 ?_ | refine k8 ?_ | refine And.intro ?_ ?_ | (intro h; first | exact Bool.noConfusion h | exact nz _ h | exact nl h | (simp at h; done) | (simp at h; first | (exfalso; omega) | skip) | skip) | exact (by kernel_rfl : drawOk _ _ = true) | fail)
    refine loop_at (fun v : Nat => [(7, vint .i64 (K - (sameP l (withRoom o.place r) v).length)), (10, vint .i64 v)]) (fun _ => []) (fun v => v ≤ l.length ∧ (sameP l (withRoom o.place r) v).length ≤ K) (fun v => l.length - v) 0 ⟨Nat.zero_le _, Nat.zero_le _⟩ (by repeat' (first | exact trivial | exact ⟨_, rfl, ALe.refl⟩ | refine And.intro ?_ ?_)) (by repeat' (first | exact trivial | exact rfl | refine And.intro ?_ ?_)) ?_
    intro v ⟨hv, hvk⟩
    rcases Nat.lt_or_ge v l.length with hvl | hvg
    · obtain ⟨q, hq⟩ := getE hvl
      by_cases hqo : q.place = withRoom o.place r
      · have hs := sameP_succ_t (placed_t hq hqo)
        have hat := sameP_at (placed_t hq hqo) hvl
        have e1 : (sameP l (withRoom o.place r) (v + 1)).length = (sameP l (withRoom o.place r) v).length + 1 := by rw [hs, List.length_append]; rfl
        have hq1 : q.place.time.weeks = o.place.time.weeks := by rw [hqo]; rfl
        have hq2 : q.place.time.day = o.place.time.day := by rw [hqo]; rfl
        have hq3 : q.place.time.start = o.place.time.start := by rw [hqo]; rfl
        have hq4 : q.place.time.len = o.place.time.len := by rw [hqo]; rfl
        have hq5 : q.place.room = r := by rw [hqo]; rfl
        generalize hJJ : (sameP l (withRoom o.place r) v).length = J at *
        repeat' (first | (refine idx_sl (k := v) (at_map hq) (by omega) ?_) | refine o1 ?_ | refine o2 ?_ | refine k1 ?_ | refine k2 ?_ | refine k3 ?_ | refine k4 ?_ | refine k6 ?_ | refine k7 ?_ | refine And.intro ?_ ?_ | refine o3 ?_ | refine o4 ?_ | (intro h; first | exact Bool.noConfusion h | exact nz _ h | exact nl h | (simp at h; done) | (simp at h; first | (exfalso; omega) | skip) | skip) | (change retOk _ _ _ _; refine ret_pure rfl trivial ?_) | exact (by kernel_rfl : drawOk _ _ = true) | refine eqv_len_map ?_ | refine eqv_wrap (by omega) (by omega) ?_ | fail)
        all_goals first
          | (exfalso; omega)
          | (have hJK : J = K := by omega
             rw [hJK] at hat
             rw [hat]; rfl)
          | exact ⟨v + 1, ⟨by omega, by omega⟩, by omega, by rw [e1, show ((K : Int) - ((J + 1 : Nat) : Int)) = (K : Int) - J - 1 by omega]; exact back [0] rfl rfl ⟨rfl, trivial⟩ (by repeat' (first | exact trivial | exact rfl | refine And.intro ?_ ?_))⟩
      · have hs := sameP_succ_f (placed_f hq hqo)
        have hno : (q.place.time.weeks = o.place.time.weeks ∧ q.place.time.day = o.place.time.day ∧ q.place.time.start = o.place.time.start ∧ q.place.time.len = o.place.time.len) ∧ q.place.room = r → False := fun h => hqo (place_ext h.1.1 h.1.2.1 h.1.2.2.1 h.1.2.2.2 h.2)
        repeat' (first | (refine idx_sl (k := v) (at_map hq) (by omega) ?_) | refine o1 ?_ | refine o2 ?_ | refine k1 ?_ | refine k2 ?_ | refine k3 ?_ | refine k4 ?_ | refine k6 ?_ | refine k7 ?_ | refine And.intro ?_ ?_ | refine o3 ?_ | refine o4 ?_ | (intro h; first | exact Bool.noConfusion h | exact nz _ h | exact nl h | (simp at h; done) | (simp at h; first | (exfalso; omega) | skip) | skip) | (change retOk _ _ _ _; refine ret_pure rfl trivial ?_) | exact (by kernel_rfl : drawOk _ _ = true) | refine eqv_len_map ?_ | refine eqv_wrap (by omega) (by omega) ?_ | fail)
        all_goals first
          | exact (hno (by assumption)).elim
          | exact ⟨v + 1, ⟨by omega, by rw [hs]; exact hvk⟩, by omega, by rw [hs]; exact back [0] rfl rfl ⟨rfl, trivial⟩ (by repeat' (first | exact trivial | exact rfl | refine And.intro ?_ ?_))⟩
    · obtain rfl : v = l.length := by omega
      have hnone : (sameP l (withRoom o.place r) l.length)[K]? = none := List.getElem?_eq_none hvk
      repeat' (first | refine o1 ?_ | refine o2 ?_ | refine k1 ?_ | refine k2 ?_ | refine k3 ?_ | refine k7 ?_ | refine k8 ?_ | refine And.intro ?_ ?_ | (intro h; first | exact Bool.noConfusion h | exact nz _ h | exact nl h | (simp at h; done) | (simp at h; first | (exfalso; omega) | skip) | skip) | (change retOk _ _ _ _; refine ret_pure rfl trivial ?_) | refine eqv_len_map ?_ | fail)
      all_goals first
        | (exfalso; omega)
        | (rw [hnone]; rfl)
theorem c_sameCh (a b : Opt) (ha : a.charges.length ≤ 100000) (hb : b.charges.length ≤ 100000) : PCall Tryz.prog 38 [ag a.row, ag b.row] (fun r => r = vbool (pB (a.charges = b.charges))) := by
  obtain ⟨ap, a⟩ := a
  obtain ⟨bp, b⟩ := b
  dsimp only at ha hb ⊢
  refine acall_of tok mixed 31 rfl (fn := Tryz.f38) (c := Tryz.f38.body.getD .skip) (by kernel_rfl) (by kernel_rfl) (by kernel_rfl) rfl 0 rfl ?_
  repeat' (first | refine o1 ?_ | refine o2 ?_ | refine k1 ?_ | refine k2 ?_ | refine k3 ?_ | refine k4 ?_ | refine k6 ?_ | refine k7 ?_ | refine And.intro ?_ ?_ | (intro h; first | exact Bool.noConfusion h | exact nz _ h | exact nl h | (simp at h; done) | (simp at h; first | (exfalso; omega) | skip) | skip) | (change retOk _ _ _ _; refine ret_pure rfl trivial ?_) | refine eqv_len_map ?_ | fail)
  · exact congrArg vbool (pB_f fun e => by subst e; simp_all).symm
  · have hl : a.length = b.length := by omega
    refine loop_at (fun i : Nat => [(5, vint .i64 i)]) (fun _ => []) (fun i => i ≤ a.length ∧ ∀ j, j < i → ∀ x y, a[j]? = some x → b[j]? = some y → x = y) (fun i => a.length - i) 0 ⟨Nat.zero_le _, fun j hj => by omega⟩ (by repeat' (first | exact trivial | exact ⟨_, rfl, ALe.refl⟩ | refine And.intro ?_ ?_)) (by repeat' (first | exact trivial | exact rfl | refine And.intro ?_ ?_)) ?_
    intro i ⟨hi, hall⟩
    rcases Nat.lt_or_ge i a.length with hlt | hge
    · obtain ⟨x, hx⟩ := getE hlt
      obtain ⟨y, hy⟩ := getE (show i < b.length by omega)
      repeat' (first | (refine idx_sl (k := i) (at_map hx) (by omega) ?_) | (refine idx_sl (k := i) (at_map hy) (by omega) ?_) | refine o1 ?_ | refine o2 ?_ | refine k1 ?_ | refine k2 ?_ | refine k3 ?_ | refine k4 ?_ | refine k6 ?_ | refine k7 ?_ | refine And.intro ?_ ?_ | refine o3 ?_ | refine o4 ?_ | (intro h; first | exact Bool.noConfusion h | exact nz _ h | exact nl h | (simp at h; done) | (simp at h; first | (exfalso; omega) | skip) | skip) | (change retOk _ _ _ _; refine ret_pure rfl trivial ?_) | exact (by kernel_rfl : drawOk _ _ = true) | refine eqv_len_map ?_ | refine eqv_wrap (by omega) (by omega) ?_ | fail)
      · exact congrArg vbool (pB_f fun e => by
          subst e
          rw [hx] at hy; injection hy with hy; subst hy
          rename_i h
          rcases h with h | h <;> exact h rfl).symm
      · rename_i h
        exact ⟨i + 1, ⟨by omega, all_lt_succ hall fun x' y' q1 q2 => by rw [hx] at q1; cases q1; rw [hy] at q2; cases q2; exact charge_eq h.1 h.2⟩, by omega, back [0, 1] rfl rfl ⟨rfl, rfl, trivial⟩ (by repeat' (first | exact trivial | exact rfl | refine And.intro ?_ ?_))⟩
    · repeat' (first | refine o1 ?_ | refine o2 ?_ | refine k1 ?_ | refine k2 ?_ | refine k3 ?_ | refine k7 ?_ | refine k8 ?_ | refine And.intro ?_ ?_ | (intro h; first | exact Bool.noConfusion h | exact nz _ h | exact nl h | (simp at h; done) | (simp at h; first | (exfalso; omega) | skip) | skip) | (change retOk _ _ _ _; refine ret_pure rfl trivial ?_) | refine eqv_len_map ?_ | fail)
      exact congrArg vbool (pB_t (lists_eq hl fun j hj => hall j (by omega))).symm
def wtL : List Load → Int → Int → Int
  | [], _, _ => 0
  | x :: l, c, o => if x.cls = c ∧ x.opt = o then x.weight else wtL l c o
theorem c_weight (c : Count) (cl o : Int) (hc : c.loads.length ≤ 100000) : PCall Tryz.prog 89 [ag c.row, vint .i64 cl, vint .i64 o] (fun r => r = vint .i64 (wtL c.loads cl o)) := by
  obtain ⟨cr, l, cm, cp⟩ := c
  dsimp only at hc ⊢
  refine acall_of tok mixed 39 rfl (fn := Tryz.f89) (c := Tryz.f89.body.getD .skip) (by kernel_rfl) (by kernel_rfl) (by kernel_rfl) rfl 0 rfl ?_
  repeat' (first | refine o1 ?_ | refine o2 ?_ | refine k1 ?_ | refine k2 ?_ | refine k4 ?_ | fail)
  refine loop_at (fun i : Nat => [(7, vint .i64 i)]) (fun _ => []) (fun i => i ≤ l.length ∧ wtL (l.drop i) cl o = wtL l cl o) (fun i => l.length - i) 0 ⟨Nat.zero_le _, rfl⟩ (by repeat' (first | exact trivial | exact ⟨_, rfl, ALe.refl⟩ | refine And.intro ?_ ?_)) (by repeat' (first | exact trivial | exact rfl | refine And.intro ?_ ?_)) ?_
  intro i ⟨hi, hw⟩
  rcases Nat.lt_or_ge i l.length with hlt | hge
  · obtain ⟨x, hx⟩ := getE hlt
    have e1 : wtL (l.drop i) cl o = if x.cls = cl ∧ x.opt = o then x.weight else wtL (l.drop (i + 1)) cl o := by rw [drop_at hx]; rfl
    by_cases hm : x.cls = cl ∧ x.opt = o
    · rw [if_pos hm] at e1
      repeat' (first | (refine idx_sl (k := i) (at_map hx) (by omega) ?_) | refine o1 ?_ | refine o2 ?_ | refine k1 ?_ | refine k2 ?_ | refine k3 ?_ | refine k4 ?_ | refine k6 ?_ | refine k7 ?_ | refine And.intro ?_ ?_ | (intro h; first | exact Bool.noConfusion h | exact nz _ h | exact nl h | (simp at h; done) | (simp at h; first | (exfalso; omega) | skip) | skip) | (change retOk _ _ _ _; refine ret_pure rfl trivial ?_) | refine eqv_len_map ?_ | fail)
      all_goals first
        | (exfalso; simp_all; done)
        | (rw [← hw, e1]; rfl)
    · rw [if_neg hm] at e1
      repeat' (first | (refine idx_sl (k := i) (at_map hx) (by omega) ?_) | refine o1 ?_ | refine o2 ?_ | refine k1 ?_ | refine k2 ?_ | refine k3 ?_ | refine k4 ?_ | refine k6 ?_ | refine And.intro ?_ ?_ | (intro h; first | exact Bool.noConfusion h | exact nz _ h | exact nl h | (simp at h; done) | (simp at h; first | (exfalso; omega) | skip) | skip) | refine eqv_len_map ?_ | refine eqv_wrap (by omega) (by omega) ?_ | fail)
      all_goals first
        | (exfalso; exact hm (by first | assumption | exact ⟨by assumption, by assumption⟩))
        | exact ⟨i + 1, ⟨by omega, by rw [← e1]; exact hw⟩, by omega, back [0] rfl rfl ⟨rfl, trivial⟩ (by repeat' (first | exact trivial | exact rfl | refine And.intro ?_ ?_))⟩
  · obtain rfl : i = l.length := by omega
    rw [List.drop_length] at hw
    repeat' (first | refine o1 ?_ | refine o2 ?_ | refine k1 ?_ | refine k2 ?_ | refine k3 ?_ | refine k7 ?_ | refine k8 ?_ | refine And.intro ?_ ?_ | (intro h; first | exact Bool.noConfusion h | exact nz _ h | exact nl h | (simp at h; done) | (simp at h; first | (exfalso; omega) | skip) | skip) | (change retOk _ _ _ _; refine ret_pure rfl trivial ?_) | refine eqv_len_map ?_ | fail)
    rw [← hw]; rfl
end Go.Proofs.YtihpjcmloecaaaaGreat.Cw
/-
  Symmetry: Swap by the program; whether a count is the image of another one, by the reference.
-/
namespace Go.Proofs.YtihpjcmloecaaaaGreat.Cw
open Go Go.Cw Go.Proofs
set_option linter.unusedVariables false
set_option maxRecDepth 100000
set_option maxHeartbeats 8000000
def exP (m : Model) (a b : Int) : Prop := modelE m = 0 ∧ a ≠ b ∧ 0 ≤ a ∧ 0 ≤ b ∧ swapP m a b
noncomputable def exV (m : Model) (a b : Int) : List (List Nat) := if pB (exP m a b) then imgsAll m a b else []
theorem leq_ex {m : Model} {a b : Int} (h : ¬ exP m a b) : Leq (.tup [.pv (.val (.slice none 0 0)), .pv (.val (.bool false))]) (.tup [.pv (.sl 1 ((exV m a b).map natsRow)), vbool (pB (exP m a b))]) := by
  unfold exV
  rw [if_neg (by rw [pB_f h]; simp), pB_f h]
  exact ⟨ALe.tup ⟨ALe.pv PLe.nil, ALe.refl, trivial⟩⟩
theorem model_good {m : Model} (h : modelE m = 0) : goodP m := Classical.byContradiction fun hn => by rw [mE1 (model_sized h) hn] at h; cases h
theorem c_Swap0 (m : Model) (a b : Int) (hl : Laid m) : PCall Tryz.prog 13 [ag m.cells, vint .i64 a, vint .i64 b] (fun r => Leq r (.tup [.pv (.sl 1 ((exV m a b).map natsRow)), vbool (pB (exP m a b))])) := by
  have hv := c_valid m hl
  by_cases hok : modelE m = 0
  · have hsw := c_swapM m a b (model_sized hok) (model_good hok)
    rw [hok] at hv
    by_cases hab : a ≠ b ∧ 0 ≤ a ∧ 0 ≤ b
    · have e : exP m a b ↔ swapP m a b := ⟨fun h => h.2.2.2.2, fun h => ⟨hok, hab.1, hab.2.1, hab.2.2, h⟩⟩
      have e1 : pB (exP m a b) = pB (swapP m a b) := pB_iff e
      have e2 : exV m a b = swapV m a b := by unfold exV swapV; rw [e1]
      rw [e1, e2]
      refine acall_of tok mixed 30 rfl (fn := Tryz.f13) (c := Tryz.f13.body.getD .skip) (by kernel_rfl) (by kernel_rfl) (by kernel_rfl) rfl 0 rfl ?_
      repeat' (first | ((change vcFun _ _ _ _ _; refine call_frz rfl (by repeat' (first | trivial | refine And.intro ?_ ?_ | (show 0 + _ ≤ List.length _; simp))) ALeL.refl hsw ?_; rintro _ rfl)) | refine o1 ?_ | refine o2 ?_ | refine k1 ?_ | refine k2 ?_ | refine k3 ?_ | refine k6 ?_ | refine k7 ?_ | refine And.intro ?_ ?_ | (intro h; first | exact Bool.noConfusion h | exact nz _ h | exact nl h | (simp at h; done) | (simp at h; first | (exfalso; omega) | skip) | skip) | (change retOk _ _ _ _; refine ret_pure rfl trivial ?_) | (change vcFun _ _ _ _ _; refine call_eq rfl (by repeat' (first | trivial | refine And.intro ?_ ?_ | (show 0 + _ ≤ List.length _; simp))) ALeL.refl (hv) rfl ?_) | fail)
      all_goals first
        | (exfalso; omega)
        | exact ⟨ALe.refl⟩
    · have hno : ¬ exP m a b := fun h => hab ⟨h.2.1, h.2.2.1, h.2.2.2.1⟩
      refine acall_of tok mixed 30 rfl (fn := Tryz.f13) (c := Tryz.f13.body.getD .skip) (by kernel_rfl) (by kernel_rfl) (by kernel_rfl) rfl 0 rfl ?_
      repeat' (first | refine o1 ?_ | refine o2 ?_ | refine k1 ?_ | refine k2 ?_ | refine k3 ?_ | refine k7 ?_ | refine And.intro ?_ ?_ | (intro h; first | exact Bool.noConfusion h | exact nz _ h | exact nl h | (simp at h; done) | (simp at h; first | (exfalso; omega) | skip) | skip) | (change retOk _ _ _ _; refine ret_pure rfl trivial ?_) | (change vcFun _ _ _ _ _; refine call_eq rfl (by repeat' (first | trivial | refine And.intro ?_ ?_ | (show 0 + _ ≤ List.length _; simp))) ALeL.refl (hv) rfl ?_) | fail)
      all_goals first
        | (exfalso; omega)
        | exact leq_ex hno
        | (exfalso; exact hab ⟨by assumption, by omega, by omega⟩)
  · have hno : ¬ exP m a b := fun h => hok h.1
    generalize modelE m = E at hv hok
    refine acall_of tok mixed 30 rfl (fn := Tryz.f13) (c := Tryz.f13.body.getD .skip) (by kernel_rfl) (by kernel_rfl) (by kernel_rfl) rfl 0 rfl ?_
    repeat' (first | refine o1 ?_ | refine o2 ?_ | refine k1 ?_ | refine k2 ?_ | refine k3 ?_ | refine k7 ?_ | refine And.intro ?_ ?_ | (intro h; first | exact Bool.noConfusion h | exact nz _ h | exact nl h | (simp at h; done) | (simp at h; first | (exfalso; omega) | skip) | skip) | (change retOk _ _ _ _; refine ret_pure rfl trivial ?_) | (change vcFun _ _ _ _ _; refine call_eq rfl (by repeat' (first | trivial | refine And.intro ?_ ?_ | (show 0 + _ ≤ List.length _; simp))) ALeL.refl (hv) rfl ?_) | fail)
    all_goals first
      | (exfalso; omega)
      | exact leq_ex hno
theorem c_Swap (m : Model) (a b : Int) (hl : Laid m) : PCall Tryz.prog 13 [ag m.cells, vint .i64 a, vint .i64 b] (fun r => r = .tup [.pv (.sl 1 ((exV m a b).map natsRow)), vbool (pB (exP m a b))]) :=
  (c_Swap0 m a b hl).weak fun r k => ⟨_, k.le, rfl⟩
def imgd (g : Load → Int) (a b : Count) : Prop := a.rule = b.rule ∧ a.most = b.most ∧ a.penalty = b.penalty ∧ a.loads.length = b.loads.length ∧ ∀ (i : Nat) (x : Load), a.loads[i]? = some x → wtL b.loads x.cls (g x) = x.weight
theorem c_imaged (a b : Count) (V : List (List Nat)) (g : Load → Int) (hal : a.loads.length ≤ 100000) (hbl : b.loads.length ≤ 100000) (hg : ∀ x ∈ a.loads, 0 ≤ x.cls ∧ 0 ≤ x.opt ∧ ∃ (v : List Nat) (j : Nat), V[x.cls.toNat]? = some v ∧ v[x.opt.toNat]? = some j ∧ g x = j) :
    PCall Tryz.prog 40 [ag a.row, ag b.row, .pv (.sl 1 (V.map natsRow))] (fun r => r = vbool (pB (imgd g a b))) := by
  refine acall_of tok mixed 65 rfl (fn := Tryz.f40) (c := Tryz.f40.body.getD .skip) (by kernel_rfl) (by kernel_rfl) (by kernel_rfl) rfl 0 rfl ?_
  by_cases h1 : a.rule = b.rule ∧ a.most = b.most ∧ a.penalty = b.penalty ∧ a.loads.length = b.loads.length
  · obtain ⟨q1, q2, q3, q4⟩ := h1
    repeat' (first | refine o1 ?_ | refine o2 ?_ | refine k1 ?_ | refine k2 ?_ | refine k3 ?_ | refine k4 ?_ | refine k6 ?_ | refine And.intro ?_ ?_ | (intro h; first | exact Bool.noConfusion h | exact nz _ h | exact nl h | (simp at h; done) | (simp at h; first | (exfalso; omega) | skip) | skip) | refine eqv_len_map ?_ | fail)
    all_goals first
      | (exfalso; omega)
      | skip
    refine loop_at (fun i : Nat => [(7, vint .i64 i)]) (fun _ => []) (fun i => i ≤ a.loads.length ∧ ∀ j, j < i → ∀ x, a.loads[j]? = some x → wtL b.loads x.cls (g x) = x.weight) (fun i => a.loads.length - i) 0 ⟨Nat.zero_le _, fun j hj => by omega⟩ (by repeat' (first | exact trivial | exact ⟨_, rfl, ALe.refl⟩ | refine And.intro ?_ ?_)) (by repeat' (first | exact trivial | exact rfl | refine And.intro ?_ ?_)) ?_
    intro i ⟨hi, hall⟩
    rcases Nat.lt_or_ge i a.loads.length with hlt | hge
    · obtain ⟨x, hx⟩ := getE hlt
      obtain ⟨p1, p2, v, j, p3, p4, p5⟩ := hg x (List.mem_of_getElem? hx)
      have hw := c_weight b x.cls (g x) hbl
      have hk1 : x.cls = (x.cls.toNat : Int) := by omega
      have hk2 : x.opt = (x.opt.toNat : Int) := by omega
      rw [p5] at hw
      have hgo : wtL b.loads x.cls j = x.weight → ∀ y, a.loads[i]? = some y → wtL b.loads y.cls (g y) = y.weight := fun h y hy => by
        rw [hx] at hy; cases hy; rw [p5]; exact h
      have hst : ¬ wtL b.loads x.cls j = x.weight → ¬ imgd g a b := fun h k => h (by rw [← p5]; exact k.2.2.2.2 i x hx)
      generalize wtL b.loads x.cls j = W at *
      repeat' (first | (refine idx_sl (k := i) (at_map hx) (by omega) ?_) | (refine idx_sl (k := x.cls.toNat) (at_map p3) hk1 ?_) | (refine idx_sl (k := x.opt.toNat) (at_map p4) hk2 ?_) | refine o1 ?_ | refine o2 ?_ | refine k1 ?_ | refine k2 ?_ | refine k3 ?_ | refine k4 ?_ | refine k6 ?_ | refine k7 ?_ | refine And.intro ?_ ?_ | refine o3 ?_ | refine o4 ?_ | (intro h; first | exact Bool.noConfusion h | exact nz _ h | exact nl h | (simp at h; done) | (simp at h; first | (exfalso; omega) | skip) | skip) | (change retOk _ _ _ _; refine ret_pure rfl trivial ?_) | exact (by kernel_rfl : drawOk _ _ = true) | refine eqv_len_map ?_ | refine eqv_wrap (by omega) (by omega) ?_ | (change vcFunD _ _ _ _ _; refine callD_eq rfl (by repeat' (first | trivial | refine And.intro ?_ ?_ | (show 0 + _ ≤ List.length _; simp))) ALeL.refl (hw) rfl ?_) | fail)
      all_goals first
        | exact congrArg vbool (pB_f (hst (by assumption))).symm
        | exact ⟨i + 1, ⟨by omega, all_lt_succ hall (hgo (by assumption))⟩, by omega, back [0, 1] rfl rfl ⟨rfl, rfl, trivial⟩ (by repeat' (first | exact trivial | exact rfl | refine And.intro ?_ ?_))⟩
    · repeat' (first | refine o1 ?_ | refine o2 ?_ | refine k1 ?_ | refine k2 ?_ | refine k3 ?_ | refine k7 ?_ | refine k8 ?_ | refine And.intro ?_ ?_ | (intro h; first | exact Bool.noConfusion h | exact nz _ h | exact nl h | (simp at h; done) | (simp at h; first | (exfalso; omega) | skip) | skip) | (change retOk _ _ _ _; refine ret_pure rfl trivial ?_) | refine eqv_len_map ?_ | fail)
      exact congrArg vbool (pB_t ⟨q1, q2, q3, q4, fun j x hx => hall j (by have := (List.getElem?_eq_some_iff.1 hx).1; omega) x hx⟩).symm
  · have hno : ¬ imgd g a b := fun k => h1 ⟨k.1, k.2.1, k.2.2.1, k.2.2.2.1⟩
    repeat' (first | refine o1 ?_ | refine o2 ?_ | refine k1 ?_ | refine k2 ?_ | refine k3 ?_ | refine k7 ?_ | refine And.intro ?_ ?_ | (intro h; first | exact Bool.noConfusion h | exact nz _ h | exact nl h | (simp at h; done) | (simp at h; first | (exfalso; omega) | skip) | skip) | (change retOk _ _ _ _; refine ret_pure rfl trivial ?_) | refine eqv_len_map ?_ | fail)
    all_goals first
      | exact congrArg vbool (pB_f hno).symm
      | (exfalso; omega)
end Go.Proofs.YtihpjcmloecaaaaGreat.Cw
/-
  Symmetry, plain: counts are the same behind an exchange if and only if each has its image.
-/
namespace Go.Proofs.YtihpjcmloecaaaaGreat.Cw
open Go Go.Cw Go.Proofs
set_option linter.unusedVariables false
set_option maxRecDepth 100000
/-! ### One by one -/
section
variable {κ : Type}
def tkn : List Bool → List κ → List κ
  | true :: T, y :: ys => y :: tkn T ys
  | false :: T, _ :: ys => tkn T ys
  | _, _ => []
def utk : List Bool → List κ → List κ
  | true :: T, _ :: ys => utk T ys
  | false :: T, y :: ys => y :: utk T ys
  | _, _ => []
theorem tkn_split : ∀ {T : List Bool} {ys : List κ}, T.length = ys.length → (tkn T ys ++ utk T ys).Perm ys
  | [], [], _ => List.Perm.refl _
  | [], _ :: _, h => by simp at h
  | _ :: _, [], h => by simp at h
  | true :: T, y :: ys, h => by
    show (y :: (tkn T ys ++ utk T ys)).Perm _
    exact (tkn_split (by simpa using h)).cons y
  | false :: T, y :: ys, h => by
    show (tkn T ys ++ y :: utk T ys).Perm _
    exact List.perm_middle.trans ((tkn_split (by simpa using h)).cons y)
theorem tkn_set {y : κ} : ∀ {T : List Bool} {ys : List κ} {k : Nat}, T[k]? = some false → ys[k]? = some y → (tkn (T.set k true) ys).Perm (y :: tkn T ys)
  | [], _, _, h, _ => by simp at h
  | _ :: _, [], _, _, h => by simp at h
  | t :: T, z :: ys, 0, h1, h2 => by
    simp only [List.getElem?_cons_zero, Option.some.injEq] at h1 h2
    subst h1; subst h2
    exact List.Perm.refl _
  | true :: T, z :: ys, k + 1, h1, h2 => by
    have ih := tkn_set (T := T) (ys := ys) (k := k) (by simpa using h1) (by simpa using h2)
    show (z :: tkn (T.set k true) ys).Perm (y :: z :: tkn T ys)
    exact (ih.cons z).trans (List.Perm.swap ..)
  | false :: T, z :: ys, k + 1, h1, h2 => tkn_set (T := T) (ys := ys) (k := k) (by simpa using h1) (by simpa using h2)
theorem utk_mem {y : κ} : ∀ {T : List Bool} {ys : List κ}, y ∈ utk T ys → ∃ k : Nat, T[k]? = some false ∧ ys[k]? = some y
  | [], _, h => by simp [utk] at h
  | _ :: _, [], h => by simp [utk] at h
  | true :: T, z :: ys, h => by
    obtain ⟨k, h1, h2⟩ := utk_mem (T := T) (ys := ys) h
    exact ⟨k + 1, by simpa using h1, by simpa using h2⟩
  | false :: T, z :: ys, h => by
    rcases List.mem_cons.1 h with rfl | h
    · exact ⟨0, rfl, rfl⟩
    · obtain ⟨k, h1, h2⟩ := utk_mem (T := T) (ys := ys) h
      exact ⟨k + 1, by simpa using h1, by simpa using h2⟩
theorem tkn_none : ∀ {n : Nat} {ys : List κ}, tkn (List.replicate n false) ys = []
  | 0, _ => rfl
  | n + 1, [] => rfl
  | n + 1, _ :: ys => by rw [List.replicate_succ]; exact tkn_none (n := n) (ys := ys)
structure Grd (xs ys : List κ) (i : Nat) (T : List Bool) : Prop where
  len : T.length = ys.length
  perm : (tkn T ys).Perm (xs.take i)
theorem Grd.start {xs ys : List κ} : Grd xs ys 0 (List.replicate ys.length false) := ⟨List.length_replicate, by rw [tkn_none]; exact List.Perm.refl _⟩
theorem Grd.next {xs ys : List κ} {i k : Nat} {T : List Bool} {x : κ} (h : Grd xs ys i T) (hx : xs[i]? = some x) (hk : T[k]? = some false) (hy : ys[k]? = some x) : Grd xs ys (i + 1) (T.set k true) :=
  ⟨by rw [List.length_set]; exact h.len, by
    rw [tk_snoc hx]
    exact (tkn_set hk hy).trans ((h.perm.cons x).trans (List.perm_append_singleton x _).symm)⟩
theorem Grd.stop {xs ys : List κ} {i : Nat} {T : List Bool} {x : κ} (h : Grd xs ys i T) (hx : xs[i]? = some x) (hno : ∀ k : Nat, T[k]? = some false → ys[k]? ≠ some x) : ¬ xs.Perm ys := fun hp => by
  have hi := (List.getElem?_eq_some_iff.1 hx).1
  have e : xs = xs.take i ++ x :: xs.drop (i + 1) := by rw [← drop_at hx, List.take_append_drop]
  have h1 : (xs.take i ++ utk T ys).Perm (xs.take i ++ x :: xs.drop (i + 1)) := by
    rw [← e]
    exact (h.perm.symm.append_right _).trans ((tkn_split h.len).trans hp.symm)
  have h2 := (List.perm_append_left_iff _).1 h1
  obtain ⟨k, h3, h4⟩ := utk_mem (h2.symm.subset (by simp : x ∈ x :: xs.drop (i + 1)))
  exact hno k h3 h4
theorem Grd.all {xs ys : List κ} {T : List Bool} (h : Grd xs ys xs.length T) (hl : xs.length = ys.length) : xs.Perm ys := by
  have h1 := h.perm
  rw [List.take_length] at h1
  have h2 := tkn_split h.len
  have h3 := h1.length_eq
  have h4 := h2.length_eq
  rw [List.length_append] at h4
  have h5 : utk T ys = [] := List.eq_nil_of_length_eq_zero (by omega)
  rw [h5, List.append_nil] at h2
  exact h1.symm.trans h2
theorem nodup_perm : ∀ {a b : List κ}, a.Nodup → (∀ x ∈ a, x ∈ b) → a.length = b.length → a.Perm b
  | [], b, _, _, h => by rw [List.eq_nil_of_length_eq_zero (l := b) (by simpa using h.symm)]
  | x :: a, b, hn, hs, h => by
    rw [List.nodup_cons] at hn
    obtain ⟨s, t, rfl⟩ := List.append_of_mem (hs x (by simp))
    have ih := nodup_perm (a := a) (b := s ++ t) hn.2 (fun y hy => by
      have := hs y (by simp [hy])
      rcases List.mem_append.1 this with h1 | h1
      · simp [h1]
      · rcases List.mem_cons.1 h1 with rfl | h1
        · exact absurd hy hn.1
        · simp [h1]) (by simp at h ⊢; omega)
    exact (ih.cons x).trans List.perm_middle.symm
end
/-! ### Images -/
theorem exch_inj {r s a b : Int} (h : exch r a b = exch s a b) : r = s := by
  unfold exch at h
  split at h <;> split at h <;> (try split at h) <;> (try split at h) <;> omega
theorem sameP_nodup {l : List Opt} {p : Placed} {n : Nat} : (sameP l p n).Nodup := List.Pairwise.filter _ List.nodup_range
theorem imN_inj {l : List Opt} {a b : Int} (h : imgsP l a b) {i j : Nat} (hi : i < l.length) (hj : j < l.length) (he : imN l a b i = imN l a b j) : i = j := by
  obtain ⟨h1, -⟩ := ok_imN (h i hi)
  obtain ⟨h2, -⟩ := ok_imN (h j hj)
  rw [he] at h1
  generalize imN l a b j = q at h1 h2
  obtain ⟨o, ho⟩ := getE hi
  obtain ⟨p, hp⟩ := getE hj
  rw [swap_of ho rfl] at h1
  rw [swap_of hp rfl] at h2
  unfold imgO at h1 h2
  rw [ho] at h1; rw [hp] at h2
  dsimp only at h1 h2
  obtain ⟨o1, k1, k2⟩ := placed_iff.1 (sameP_mem.1 (List.mem_of_getElem? h1)).2
  obtain ⟨o2, k3, k4⟩ := placed_iff.1 (sameP_mem.1 (List.mem_of_getElem? h2)).2
  rw [k1] at k3; cases k3
  have hw : withRoom o.place (exch o.place.room a b) = withRoom p.place (exch p.place.room a b) := k2.symm.trans k4
  have ht : o.place.time = p.place.time := by have := congrArg Placed.time hw; exact this
  have hr : o.place.room = p.place.room := exch_inj (by have := congrArg Placed.room hw; exact this)
  have hpl : o.place = p.place := by
    obtain ⟨⟨t, r⟩, c⟩ := o
    obtain ⟨⟨t', r'⟩, c'⟩ := p
    simp only at ht hr
    subst ht; subst hr; rfl
  rw [hpl] at h1
  have hnd := sameP_nodup (l := l) (p := withRoom p.place (exch p.place.room a b)) (n := l.length)
  have hK : (sameP l p.place i).length = (sameP l p.place j).length := by
    have e1 := (List.getElem?_eq_some_iff.1 h1)
    have e2 := (List.getElem?_eq_some_iff.1 h2)
    obtain ⟨b1, e1⟩ := e1
    obtain ⟨b2, e2⟩ := e2
    rcases Nat.lt_trichotomy (sameP l p.place i).length (sameP l p.place j).length with h | h | h
    · exact absurd (e1.trans e2.symm) (List.pairwise_iff_getElem.1 hnd _ _ b1 b2 h)
    · exact h
    · exact absurd (e2.trans e1.symm) (List.pairwise_iff_getElem.1 hnd _ _ b2 b1 h)
  have g1 := sameP_at (placed_t ho hpl) hi
  have g2 := sameP_at (placed_t hp rfl) hj
  rw [hK] at g1
  rw [g1] at g2
  injection g2
/-! ### Loads -/
def lkey (x : Load) : Int := x.cls * 24 + x.opt
theorem load_step {m : Model} {c : Count} (hz : ∀ l ∈ m.classes, l.length ≤ 24) (h : ∀ i, i < c.loads.length → loadAt m c.loads i) : ∀ {i j : Nat} {x y : Load}, i < j → c.loads[i]? = some x → c.loads[j]? = some y → lkey x < lkey y
  | i, j + 1, x, y, hij, hx, hy => by
    have hj := (List.getElem?_eq_some_iff.1 hy).1
    obtain ⟨z, hz'⟩ := getE (show j < c.loads.length by omega)
    have h1 := (h (j + 1) hj y hy).2.2.2 j z rfl hz'
    have h2 := loads_ge hz h hz'
    have h3 := loads_ge hz h hy
    have hzy : lkey z < lkey y := by unfold lkey; omega
    rcases Nat.eq_or_lt_of_le (Nat.le_of_lt_succ hij) with e | e
    · subst e; rw [hx] at hz'; cases hz'; exact hzy
    · have := load_step hz h e hx hz'; omega
  | i, 0, x, y, hij, hx, hy => by omega
theorem wt_mem : ∀ {l : List Load} {c o w : Int}, wtL l c o = w → 1 ≤ w → (⟨c, o, w⟩ : Load) ∈ l
  | [], _, _, w, h, hw => by simp [wtL] at h; omega
  | x :: l, c, o, w, h, hw => by
    unfold wtL at h
    split at h
    · rename_i k
      obtain ⟨k1, k2⟩ := k
      have : x = ⟨c, o, w⟩ := ld_eq k1 k2 h
      simp [this]
    · exact List.mem_cons_of_mem _ (wt_mem h hw)
theorem wt_of : ∀ {l : List Load} {x : Load}, l.Pairwise (fun a b => ¬ (a.cls = b.cls ∧ a.opt = b.opt)) → x ∈ l → wtL l x.cls x.opt = x.weight
  | [], x, _, h => by simp at h
  | y :: l, x, hp, h => by
    rw [List.pairwise_cons] at hp
    unfold wtL
    rcases List.mem_cons.1 h with rfl | h
    · rw [if_pos ⟨rfl, rfl⟩]
    · rw [if_neg fun k => hp.1 x h k]
      exact wt_of hp.2 h
theorem pair_of {α : Type} {l : List α} {R : α → α → Prop} (h : ∀ (i j : Nat) x y, i < j → l[i]? = some x → l[j]? = some y → R x y) : l.Pairwise R := by
  rw [List.pairwise_iff_getElem]
  intro i j hi hj hij
  exact h i j _ _ hij (List.getElem?_eq_getElem hi) (List.getElem?_eq_getElem hj)
section
variable {m : Model} {a b : Int}
theorem loads_apart (hz : sizedP m) (hg : goodP m) {c : Count} (hc : c ∈ m.counts) : c.loads.Pairwise fun x y => ¬ (x.cls = y.cls ∧ x.opt = y.opt) :=
  pair_of fun i j x y hij hx hy k => by
    have := load_step hz.2.1 (hg.2.2 c hc).2.2.2.2 hij hx hy
    unfold lkey at this; omega
theorem imLoad_inj (hi : allImg m a b) {x y : Load} (hx : optionP m x.cls x.opt) (hy : optionP m y.cls y.opt) (hc : x.cls = y.cls) (h : imLoad m a b x = imLoad m a b y) : x.opt = y.opt := by
  obtain ⟨x1, x2, l, x3, x4⟩ := hx
  obtain ⟨y1, y2, l', y3, y4⟩ := hy
  rw [hc] at x3
  rw [x3] at y3; cases y3
  have e1 : imLoad m a b x = (imN l a b x.opt.toNat : Int) := by unfold imLoad; rw [hc, x3]
  have e2 : imLoad m a b y = (imN l a b y.opt.toNat : Int) := by unfold imLoad; rw [x3]
  rw [e1, e2] at h
  have := imN_inj (hi l (List.mem_of_getElem? x3)) (i := x.opt.toNat) (j := y.opt.toNat) (by omega) (by omega) (by omega)
  omega
theorem moved_nodup (hz : sizedP m) (hg : goodP m) (hi : allImg m a b) {c : Count} (hc : c ∈ m.counts) : (c.loads.map (optL (imLoad m a b))).Nodup := by
  unfold List.Nodup
  rw [List.pairwise_map]
  have h2 : c.loads.Pairwise fun x y => (x ∈ c.loads ∧ y ∈ c.loads) ∧ ¬ (x.cls = y.cls ∧ x.opt = y.opt) :=
    pair_of fun i j x y hij hx hy => ⟨⟨List.mem_of_getElem? hx, List.mem_of_getElem? hy⟩, fun k => by
      have := load_step hz.2.1 (hg.2.2 c hc).2.2.2.2 hij hx hy
      unfold lkey at this; omega⟩
  refine h2.imp fun {x y} h e => h.2 ?_
  have e1 : x.cls = y.cls := by have := congrArg Load.cls e; exact this
  have e2 : imLoad m a b x = imLoad m a b y := by have := congrArg Load.opt e; exact this
  exact ⟨e1, imLoad_inj hi (good_load hg hc h.1.1).1 (good_load hg hc h.1.2).1 e1 e2⟩
theorem imgd_iff (hz : sizedP m) (hg : goodP m) (hi : allImg m a b) {c d : Count} (hc : c ∈ m.counts) (hd : d ∈ m.counts) : imgd (imLoad m a b) c d ↔ optC (imLoad m a b) c = optC Load.opt d := by
  have hid : d.loads.map (optL Load.opt) = d.loads := by
    have : (optL Load.opt) = id := rfl
    rw [this, List.map_id]
  have hp : optC (imLoad m a b) c = optC Load.opt d ↔ c.rule = d.rule ∧ c.most = d.most ∧ c.penalty = d.penalty ∧ (c.loads.map (optL (imLoad m a b))).Perm d.loads := by
    rw [← srt_eq totLd, ← hid]
    unfold optC
    simp only [Count.mk.injEq, hid]
    grind
  rw [hp]
  unfold imgd
  constructor
  · rintro ⟨h1, h2, h3, h4, h5⟩
    refine ⟨h1, h2, h3, nodup_perm (moved_nodup hz hg hi hc) (fun y hy => ?_) (by rw [List.length_map]; exact h4)⟩
    obtain ⟨x, hx, rfl⟩ := List.mem_map.1 hy
    obtain ⟨i, hi'⟩ := List.getElem?_of_mem hx
    exact wt_mem (h5 i x hi') (good_load hg hc hx).2
  · rintro ⟨h1, h2, h3, h4⟩
    refine ⟨h1, h2, h3, by rw [← h4.length_eq, List.length_map], fun i x hx => ?_⟩
    have := wt_of (loads_apart hz hg hd) (h4.subset (List.mem_map_of_mem (f := optL (imLoad m a b)) (List.mem_of_getElem? hx)))
    exact this
theorem cnt_iff : cntSame m a b ↔ (m.counts.map (optC (imLoad m a b))).Perm (m.counts.map (optC Load.opt)) := by
  unfold cntSame countsV
  rw [srt_eq totCt]
  exact ⟨List.Perm.symm, List.Perm.symm⟩
end
end Go.Proofs.YtihpjcmloecaaaaGreat.Cw
/-
  Symmetry: Swap by the reference.
-/
namespace Go.Proofs.YtihpjcmloecaaaaGreat.Cw
open Go Go.Cw Go.Proofs
set_option linter.unusedVariables false
set_option maxRecDepth 100000
set_option maxHeartbeats 16000000
def boolRow (b : Bool) : List PV := [.val (.bool b)]
theorem c_rSwap0 (m : Model) (a b : Int) (hl : Laid m) : PCall Tryz.prog 14 [ag m.cells, vint .i64 a, vint .i64 b] (fun r => Leq r (.tup [.pv (.sl 1 ((exV m a b).map natsRow)), vbool (pB (exP m a b))])) := by
  have hv := c_rvalid m hl
  by_cases hok : modelE m = 0
  · rw [hok] at hv
    by_cases hab : a ≠ b ∧ 0 ≤ a ∧ 0 ≤ b
    · obtain ⟨hab1, hab2, hab3⟩ := hab
      have hz := model_sized hok
      have hg := model_good hok
      have hld : ∀ c ∈ m.counts, c.loads.length ≤ 576 := fun c hc => loads_len hz (hg.2.2 c hc).2.2.2.2
      obtain ⟨z1, z2, z3, z4, z5⟩ := id hz
      refine acall_of tok mixed 188 rfl (fn := Tryz.f14) (c := Tryz.f14.body.getD .skip) (by kernel_rfl) (by kernel_rfl) (by kernel_rfl) rfl 0 rfl ?_
      repeat' (first | refine o1 ?_ | refine o2 ?_ | refine k1 ?_ | refine k2 ?_ | refine k3 ?_ | refine k4 ?_ | refine k6 ?_ | refine And.intro ?_ ?_ | (intro h; first | exact Bool.noConfusion h | exact nz _ h | exact nl h | (simp at h; done) | (simp at h; first | (exfalso; omega) | skip) | skip) | (change vcFun _ _ _ _ _; refine call_eq rfl (by repeat' (first | trivial | refine And.intro ?_ ?_ | (show 0 + _ ≤ List.length _; simp))) ALeL.refl (hv) rfl ?_) | fail)
      all_goals first
        | (exfalso; omega)
        | skip
      refine loop_for (fun i : Nat => [(1, vint .i64 a), (2, vint .i64 b), (3, .ptr 0 4 0 0), (8, slP 1 1 (((m.classes.take i).map fun l => imgsL l a b l.length).map natsRow)), (9, vint .i64 i)])
        (fun i => [some ⟨29, 4, false, .box (pvs m.cells)⟩, obP 22 1 (((m.classes.take i).map fun l => imgsL l a b l.length).map natsRow)])
        (fun i => i ≤ m.classes.length ∧ ∀ j, j < i → ∀ l, m.classes[j]? = some l → imgsP l a b) (fun i => m.classes.length - i) 0 ⟨Nat.zero_le _, fun j hj => by omega⟩ ?_ ?_
      · exact back [0, 1] rfl rfl (by repeat' (first | exact trivial | exact rfl | refine And.intro ?_ ?_)) (by repeat' (first | exact trivial | exact rfl | refine And.intro ?_ ?_))
      intro i ⟨hi, hall⟩
      rcases Nat.lt_or_ge i m.classes.length with hlt | hge
      · obtain ⟨l, hl'⟩ := getE hlt
        have hlm := List.mem_of_getElem? hl'
        have hln := z2 l hlm
        have htl : ((m.classes.take i).map fun l => imgsL l a b l.length).length ≤ 24 := by rw [List.length_map]; exact Nat.le_trans (List.length_take_le' ..) z1
        have hnx := all_rows (a := a) (b := b) hl'
        generalize hRS : ((m.classes.take i).map fun l => imgsL l a b l.length) = RS at *
        repeat' (first | (refine fh_ob ?_) | (refine idx_sl (k := i) (at_map hl') rfl ?_) | refine o1 ?_ | refine o2 ?_ | refine k1 ?_ | refine k2 ?_ | refine k3 ?_ | refine k4 ?_ | refine k6 ?_ | refine And.intro ?_ ?_ | (intro h; first | exact Bool.noConfusion h | exact nz _ h | exact nl h | (simp at h; done) | (simp at h; first | (exfalso; omega) | skip) | skip) | refine eqv_len_map ?_ | fail)
        refine loop_for (fun k : Nat => [(1, vint .i64 a), (2, vint .i64 b), (3, .ptr 0 4 0 0), (8, slP 1 1 (RS.map natsRow)), (9, vint .i64 i), (10, .pv (.sl 6 (l.map Opt.row))), (11, slP 2 1 ((imgsL l a b k).map natRow)), (12, vint .i64 k)])
          (fun k => [some ⟨29, 4, false, .box (pvs m.cells)⟩, obP 22 1 (RS.map natsRow), obP 3 1 ((imgsL l a b k).map natRow)])
          (fun k => k ≤ l.length ∧ ∀ j, j < k → okO l a b j) (fun k => l.length - k) 0 ⟨Nat.zero_le _, fun j hj => by omega⟩ ?_ ?_
        · exact back [0, 1, 2] rfl rfl (by repeat' (first | exact trivial | exact rfl | refine kept_ob rfl ?_ | refine And.intro ?_ ?_)) (by repeat' (first | exact trivial | exact rfl | exact ren_get rfl | refine And.intro ?_ ?_))
        intro k ⟨hk, hka⟩
        rcases Nat.lt_or_ge k l.length with hkl | hkg
        · obtain ⟨o, ho⟩ := getE hkl
          have hil := imgs_len (l := l) (a := a) (b := b) (n := k)
          have hex := c_exch o.place.room a b
          have hmv := c_moved l k (exch o.place.room a b) (by omega) hkl
          have hso := swap_of (a := a) (b := b) ho rfl
          generalize exch o.place.room a b = R at *
          rw [← hso] at hmv
          rcases hj : swapO l a b k with _ | j
          · have hno : ¬ exP m a b := fun h => imgs_no hkl (ok_none hj) (h.2.2.2.2.1 l hlm)
            rw [hj] at hmv
            repeat' (first | (refine fh_ob ?_) | (refine idx_sl (k := k) (at_map ho) rfl ?_) | refine o1 ?_ | refine o2 ?_ | refine k1 ?_ | refine k2 ?_ | refine k3 ?_ | refine k4 ?_ | refine k6 ?_ | refine k7 ?_ | refine And.intro ?_ ?_ | refine o3 ?_ | refine o4 ?_ | (intro h; first | exact Bool.noConfusion h | exact nz _ h | exact nl h | (simp at h; done) | (simp at h; first | (exfalso; omega) | skip) | skip) | (change retOk _ _ _ _; refine ret_pure rfl trivial ?_) | exact (by kernel_rfl : drawOk _ _ = true) | refine eqv_len_map ?_ | (change vcFun _ _ _ _ _; refine call_eq rfl (by repeat' (first | trivial | refine And.intro ?_ ?_ | (show 0 + _ ≤ List.length _; simp))) ALeL.refl (hex) rfl ?_) | (change vcFun _ _ _ _ _; refine call_eq rfl (by repeat' (first | trivial | refine And.intro ?_ ?_ | (show 0 + _ ≤ List.length _; simp))) ALeL.refl (hmv) rfl ?_) | fail)
            all_goals first
              | (exfalso; omega)
              | exact leq_ex hno
          · have hjl : j < l.length := by rw [hso] at hj; exact img_lt hj
            obtain ⟨q, hq⟩ := getE hjl
            have hsc := c_sameCh o q (by have := charges_len (hg.1 l hlm o (List.mem_of_getElem? ho)) z5.2; omega) (by have := charges_len (hg.1 l hlm q (List.mem_of_getElem? hq)) z5.2; omega)
            rw [hj] at hmv
            by_cases hcc : o.charges = q.charges
            · have hsu := imgs_succ hj
              rw [pB_t hcc] at hsc
              repeat' (first | (refine fv_sl ?_) | (refine fh_ob ?_) | (refine idx_sl (k := k) (at_map ho) rfl ?_) | (refine idx_sl (k := j) (at_map hq) rfl ?_) | ((refine o_app rfl rfl rfl rfl rfl rfl rfl rfl rfl rfl rfl (by rw [List.length_map]; omega) (by rw [List.length_map]; omega) ?_)) | refine o1 ?_ | refine o2 ?_ | refine k1 ?_ | refine k2 ?_ | refine k3 ?_ | refine k4 ?_ | refine k6 ?_ | refine And.intro ?_ ?_ | refine o3 ?_ | refine o4 ?_ | (intro h; first | exact Bool.noConfusion h | exact nz _ h | exact nl h | (simp at h; done) | (simp at h; first | (exfalso; omega) | skip) | skip) | exact (by kernel_rfl : drawOk _ _ = true) | refine eqv_len_map ?_ | refine eqv_wrap (by omega) (by omega) ?_ | (change vcFun _ _ _ _ _; refine call_eq rfl (by repeat' (first | trivial | refine And.intro ?_ ?_ | (show 0 + _ ≤ List.length _; simp))) ALeL.refl (hex) rfl ?_) | (change vcFun _ _ _ _ _; refine call_eq rfl (by repeat' (first | trivial | refine And.intro ?_ ?_ | (show 0 + _ ≤ List.length _; simp))) ALeL.refl (hmv) rfl ?_) | (change vcFunD _ _ _ _ _; refine callD_eq rfl (by repeat' (first | trivial | refine And.intro ?_ ?_ | (show 0 + _ ≤ List.length _; simp))) ALeL.refl (hsc) rfl ?_) | fail)
              all_goals first
                | (refine ⟨k + 1, ⟨by omega, all_lt_succ hka ⟨j, o, q, hj, ho, hq, hcc⟩⟩, by omega, ?_⟩
                   rw [hsu, map_snoc, sl_app, ob_app]
                   exact back [0, 1, 4] rfl rfl (by repeat' (first | exact trivial | exact rfl | refine kept_ob rfl ?_ | refine And.intro ?_ ?_)) (by repeat' (first | exact trivial | exact rfl | exact ren_get rfl | refine And.intro ?_ ?_)))
            · have hno : ¬ exP m a b := fun h => imgs_no hkl (ok_ne hj ho hq hcc) (h.2.2.2.2.1 l hlm)
              rw [pB_f hcc] at hsc
              repeat' (first | (refine fh_ob ?_) | (refine idx_sl (k := k) (at_map ho) rfl ?_) | (refine idx_sl (k := j) (at_map hq) rfl ?_) | refine o1 ?_ | refine o2 ?_ | refine k1 ?_ | refine k2 ?_ | refine k3 ?_ | refine k4 ?_ | refine k6 ?_ | refine k7 ?_ | refine And.intro ?_ ?_ | refine o3 ?_ | refine o4 ?_ | (intro h; first | exact Bool.noConfusion h | exact nz _ h | exact nl h | (simp at h; done) | (simp at h; first | (exfalso; omega) | skip) | skip) | (change retOk _ _ _ _; refine ret_pure rfl trivial ?_) | exact (by kernel_rfl : drawOk _ _ = true) | refine eqv_len_map ?_ | (change vcFun _ _ _ _ _; refine call_eq rfl (by repeat' (first | trivial | refine And.intro ?_ ?_ | (show 0 + _ ≤ List.length _; simp))) ALeL.refl (hex) rfl ?_) | (change vcFun _ _ _ _ _; refine call_eq rfl (by repeat' (first | trivial | refine And.intro ?_ ?_ | (show 0 + _ ≤ List.length _; simp))) ALeL.refl (hmv) rfl ?_) | (change vcFunD _ _ _ _ _; refine callD_eq rfl (by repeat' (first | trivial | refine And.intro ?_ ?_ | (show 0 + _ ≤ List.length _; simp))) ALeL.refl (hsc) rfl ?_) | fail)
              all_goals first
                | exact leq_ex hno
        · obtain rfl : k = l.length := by omega
          have hp : imgsP l a b := fun i hi => hka i hi
          have hlw : (imgsL l a b l.length).length ≤ 24 := by rw [imgs_whole hp]; exact hln
          refine forceH_in ?_
          refine ghost_seq (Γ' := [(1, vint .i64 a), (2, vint .i64 b), (3, .ptr 0 4 0 0), (8, slP 1 1 (RS.map natsRow)), (9, vint .i64 i), (10, .pv (.sl 6 (l.map Opt.row))), (11, .pv (.sl 1 ((imgsL l a b l.length).map natRow))), (12, vint .i64 l.length)]) (H' := [some ⟨29, 4, false, .box (pvs m.cells)⟩, obP 22 1 (RS.map natsRow)]) (Ghost.sl (s := 11) (id := 2) rfl rfl fun H' hl hH => back [0, 1] rfl rfl (And.intro (hH 0 (by decide)) (kept_ob (hH 1 (by decide)) trivial)) (by repeat' (first | exact trivial | exact rfl | exact ren_get rfl | refine And.intro ?_ ?_))) ?_
          repeat' (first | (refine fv_sl ?_) | (refine fh_ob ?_) | ((refine o_app rfl rfl rfl rfl rfl rfl rfl rfl rfl rfl rfl (by rw [List.length_map]; omega) (by rw [List.length_map]; omega) ?_)) | refine o1 ?_ | refine o2 ?_ | refine k1 ?_ | refine k2 ?_ | refine k3 ?_ | refine k8 ?_ | refine And.intro ?_ ?_ | (intro h; first | exact Bool.noConfusion h | exact nz _ h | exact nl h | (simp at h; done) | (simp at h; first | (exfalso; omega) | skip) | skip) | refine eqv_len_map ?_ | refine eqv_wrap (by omega) (by omega) ?_ | fail)
          refine ⟨i + 1, ⟨by omega, all_lt_succ hall fun l0 h' => by rw [hl'] at h'; cases h'; exact hp⟩, by omega, ?_⟩
          rw [hnx, map_snoc, sl_app, ob_app]
          exact back [0, 3] rfl rfl (by repeat' (first | exact trivial | exact rfl | refine And.intro ?_ ?_)) (by repeat' (first | exact trivial | exact rfl | refine And.intro ?_ ?_))
      · obtain rfl : i = m.classes.length := by omega
        rw [List.take_length]
        have hal : allImg m a b := fun l hl => by
          obtain ⟨j, hj⟩ := List.getElem?_of_mem hl
          exact hall j (List.getElem?_eq_some_iff.1 hj).1 l hj
        refine forceH_in ?_
        change xCode _ _ _ _ _ _ [_, _, _, (8, slP 1 1 ((imgsAll m a b).map natsRow)), _] [_, obP _ 1 ((imgsAll m a b).map natsRow)]
        refine ghost_seq (Γ' := [(3, .ptr 0 4 0 0), (8, .pv (.sl 1 ((imgsAll m a b).map natsRow))), (9, vint .i64 m.classes.length)]) (H' := [some ⟨29, 4, false, .box (pvs m.cells)⟩]) (Ghost.sl (s := 8) (id := 1) rfl rfl fun H' hl hH => back [0] rfl rfl (And.intro (hH 0 (by decide)) trivial) (by repeat' (first | exact trivial | exact rfl | refine And.intro ?_ ?_))) ?_
        repeat' (first | refine o1 ?_ | refine o2 ?_ | refine k1 ?_ | refine k2 ?_ | refine k3 ?_ | refine k4 ?_ | refine k8 ?_ | refine And.intro ?_ ?_ | (intro h; first | exact Bool.noConfusion h | exact nz _ h | exact nl h | (simp at h; done) | (simp at h; first | (exfalso; omega) | skip) | skip) | refine eqv_len_map ?_ | fail)
        refine loop_for (fun i : Nat => [(3, .ptr 0 4 0 0), (8, .pv (.sl 1 ((imgsAll m a b).map natsRow))), (14, vint .i64 i)])
          (fun i => [some ⟨29, 4, false, .box (pvs m.cells)⟩])
          (fun i => i ≤ m.pairs.length ∧ ∀ j, j < i → ∀ p, m.pairs[j]? = some p → entSame m a b p) (fun i => m.pairs.length - i) 0 ⟨Nat.zero_le _, fun j hj => by omega⟩ (back [0] rfl rfl (by repeat' (first | exact trivial | exact rfl | refine And.intro ?_ ?_)) (by repeat' (first | exact trivial | exact rfl | refine And.intro ?_ ?_))) ?_
        intro i ⟨hi, hpa⟩
        rcases Nat.lt_or_ge i m.pairs.length with hlt | hge2
        · obtain ⟨p, hp⟩ := getE hlt
          have hpp := (hg.2.1 i hlt p hp).1
          obtain ⟨q1, q2, q3, ⟨x, y, hx, hy, q4⟩, q5⟩ := id hpp
          have hxa := hal x (List.mem_of_getElem? hx)
          have hya := hal y (List.mem_of_getElem? hy)
          have hxl := z2 x (List.mem_of_getElem? hx)
          have hyl := z2 y (List.mem_of_getElem? hy)
          have hxw := imgs_whole hxa
          have hyw := imgs_whole hya
          have hax := all_at (a := a) (b := b) hx
          have hay := all_at (a := a) (b := b) hy
          have hix := fun i hi => imgs_at hxa (i := i) hi
          have hiy := fun i hi => imgs_at hya (i := i) hi
          generalize imgsL x a b x.length = IX at hxw hax hix
          generalize imgsL y a b y.length = IY at hyw hay hiy
          obtain ⟨p1, p2, p3, p4⟩ := p
          dsimp only at q2 q3 hx hy hax hay
          have hk1 : p1 = (p1.toNat : Int) := by omega
          have hk2 : p2 = (p2.toNat : Int) := by omega
          repeat' (first | (refine idx_sl (k := i) (at_map hp) rfl ?_) | (refine idx_sl (k := p1.toNat) (at_map hax) hk1 ?_) | (refine idx_sl (k := p2.toNat) (at_map hay) hk2 ?_) | refine o1 ?_ | refine o2 ?_ | refine k1 ?_ | refine k2 ?_ | refine k3 ?_ | refine k4 ?_ | refine k6 ?_ | refine And.intro ?_ ?_ | refine o3 ?_ | refine o4 ?_ | (intro h; first | exact Bool.noConfusion h | exact nz _ h | exact nl h | (simp at h; done) | (simp at h; first | (exfalso; omega) | skip) | skip) | exact (by kernel_rfl : drawOk _ _ = true) | refine eqv_len_map ?_ | fail)
          refine loop_for (fun u : Nat => [(3, .ptr 0 4 0 0), (8, .pv (.sl 1 ((imgsAll m a b).map natsRow))), (14, vint .i64 i), (15, .ptr 1 4 0 0), (16, .pv (.sl 1 (IX.map natRow))), (17, .pv (.sl 1 (IY.map natRow))), (18, vint .i64 u)])
            (fun u => [some ⟨29, 4, false, .box (pvs m.cells)⟩, some ⟨72, 4, false, .box (pvs (Pair.row ⟨p1, p2, p3, p4⟩))⟩])
            (fun u => u ≤ x.length ∧ ∀ j, j < u → ∀ k, k < y.length → entZ m ⟨p1, p2, p3, p4⟩ j k = entZ m ⟨p1, p2, p3, p4⟩ (imN x a b j) (imN y a b k)) (fun u => x.length - u) 0 ⟨Nat.zero_le _, fun j hj => by omega⟩ (back [0, 1] rfl rfl (by repeat' (first | exact trivial | exact rfl | refine And.intro ?_ ?_)) (by repeat' (first | exact trivial | exact rfl | refine And.intro ?_ ?_))) ?_
          intro u ⟨hu, hua⟩
          rcases Nat.lt_or_ge u x.length with hul | hug
          · repeat' (first | refine o1 ?_ | refine o2 ?_ | refine k1 ?_ | refine k2 ?_ | refine k3 ?_ | refine k4 ?_ | refine k6 ?_ | refine And.intro ?_ ?_ | (intro h; first | exact Bool.noConfusion h | exact nz _ h | exact nl h | (simp at h; done) | (simp at h; first | (exfalso; omega) | skip) | skip) | refine eqv_len_map ?_ | fail)
            refine loop_for (fun k : Nat => [(3, .ptr 0 4 0 0), (8, .pv (.sl 1 ((imgsAll m a b).map natsRow))), (14, vint .i64 i), (15, .ptr 1 4 0 0), (16, .pv (.sl 1 (IX.map natRow))), (17, .pv (.sl 1 (IY.map natRow))), (18, vint .i64 u), (19, vint .i64 k)])
              (fun k => [some ⟨29, 4, false, .box (pvs m.cells)⟩, some ⟨72, 4, false, .box (pvs (Pair.row ⟨p1, p2, p3, p4⟩))⟩])
              (fun k => k ≤ y.length ∧ ∀ j, j < k → entZ m ⟨p1, p2, p3, p4⟩ u j = entZ m ⟨p1, p2, p3, p4⟩ (imN x a b u) (imN y a b j)) (fun k => y.length - k) 0 ⟨Nat.zero_le _, fun j hj => by omega⟩ (back [0, 1] rfl rfl (by repeat' (first | exact trivial | exact rfl | refine And.intro ?_ ?_)) (by repeat' (first | exact trivial | exact rfl | refine And.intro ?_ ?_))) ?_
            intro k ⟨hk, hka⟩
            rcases Nat.lt_or_ge k y.length with hkl | hkg
            · obtain ⟨-, hju⟩ := ok_imN (hxa u hul)
              obtain ⟨-, hjk⟩ := ok_imN (hya k hkl)
              have hE1 := c_rentry m ⟨p1, p2, p3, p4⟩ u k y _ (by show 0 ≤ p2; omega) hy (by omega) (by omega) (by omega) (entZ_at hx hy hpp hul hkl)
              have hE2 := c_rentry m ⟨p1, p2, p3, p4⟩ (imN x a b u) (imN y a b k) y _ (by show 0 ≤ p2; omega) hy (by omega) (by omega) (by omega) (entZ_at hx hy hpp hju hjk)
              have hne : ¬ entZ m ⟨p1, p2, p3, p4⟩ u k = entZ m ⟨p1, p2, p3, p4⟩ (imN x a b u) (imN y a b k) → ¬ exP m a b := fun h h2 => h (h2.2.2.2.2.2.1 _ (List.mem_of_getElem? hp) x y hx hy u hul k hkl)
              have hiu := hix u hul
              have hik := hiy k hkl
              generalize hZ1 : entZ m ⟨p1, p2, p3, p4⟩ u k = Z1 at *
              generalize hZ2 : entZ m ⟨p1, p2, p3, p4⟩ (imN x a b u) (imN y a b k) = Z2 at *
              generalize hIU : imN x a b u = IU at *
              generalize hIK : imN y a b k = IK at *
              repeat' (first | (refine idx_sl (k := u) (at_map hiu) rfl ?_) | (refine idx_sl (k := k) (at_map hik) rfl ?_) | refine o1 ?_ | refine o2 ?_ | refine k1 ?_ | refine k2 ?_ | refine k3 ?_ | refine k4 ?_ | refine k6 ?_ | refine k7 ?_ | refine And.intro ?_ ?_ | refine o3 ?_ | refine o4 ?_ | (intro h; first | exact Bool.noConfusion h | exact nz _ h | exact nl h | (simp at h; done) | (simp at h; first | (exfalso; omega) | skip) | skip) | (change retOk _ _ _ _; refine ret_pure rfl trivial ?_) | exact (by kernel_rfl : drawOk _ _ = true) | refine eqv_len_map ?_ | refine eqv_wrap (by omega) (by omega) ?_ | (change vcFunD _ _ _ _ _; refine callD_eq rfl (by repeat' (first | trivial | refine And.intro ?_ ?_ | (show 0 + _ ≤ List.length _; simp))) ALeL.refl (hE1) rfl ?_) | (change vcFunD _ _ _ _ _; refine callD_eq rfl (by repeat' (first | trivial | refine And.intro ?_ ?_ | (show 0 + _ ≤ List.length _; simp))) ALeL.refl (hE2) rfl ?_) | fail)
              all_goals first
                | exact leq_ex (hne (by assumption))
                | exact ⟨k + 1, ⟨by omega, all_lt_succ hka (by rw [hZ1, hIK, hZ2]; first | assumption | (exact Classical.not_not.1 (by assumption)))⟩, by omega, back [0, 1] rfl rfl (by repeat' (first | exact trivial | exact rfl | refine And.intro ?_ ?_)) (by repeat' (first | exact trivial | exact rfl | refine And.intro ?_ ?_))⟩
            · obtain rfl : k = y.length := by omega
              repeat' (first | refine o1 ?_ | refine o2 ?_ | refine k1 ?_ | refine k2 ?_ | refine k3 ?_ | refine k8 ?_ | refine And.intro ?_ ?_ | (intro h; first | exact Bool.noConfusion h | exact nz _ h | exact nl h | (simp at h; done) | (simp at h; first | (exfalso; omega) | skip) | skip) | refine eqv_len_map ?_ | refine eqv_wrap (by omega) (by omega) ?_ | fail)
              exact ⟨u + 1, ⟨by omega, all_lt_succ hua fun j hj => hka j hj⟩, by omega, back [0, 1] rfl rfl (by repeat' (first | exact trivial | exact rfl | refine And.intro ?_ ?_)) (by repeat' (first | exact trivial | exact rfl | refine And.intro ?_ ?_))⟩
          · obtain rfl : u = x.length := by omega
            repeat' (first | refine o1 ?_ | refine o2 ?_ | refine k1 ?_ | refine k2 ?_ | refine k3 ?_ | refine k8 ?_ | refine And.intro ?_ ?_ | (intro h; first | exact Bool.noConfusion h | exact nz _ h | exact nl h | (simp at h; done) | (simp at h; first | (exfalso; omega) | skip) | skip) | refine eqv_len_map ?_ | refine eqv_wrap (by omega) (by omega) ?_ | fail)
            exact ⟨i + 1, ⟨by omega, all_lt_succ hpa fun p' h' x' y' hx' hy' j hj k hk => by
              rw [hp] at h'; cases h'
              dsimp only at hx' hy'
              rw [hx] at hx'; cases hx'
              rw [hy] at hy'; cases hy'
              exact hua j hj k hk⟩, by omega, back [0] rfl rfl (by repeat' (first | exact trivial | exact rfl | refine And.intro ?_ ?_)) (by repeat' (first | exact trivial | exact rfl | refine And.intro ?_ ?_))⟩
        · obtain rfl : i = m.pairs.length := by omega
          have hes : ∀ p ∈ m.pairs, entSame m a b p := fun p hp => by
            obtain ⟨j, hj⟩ := List.getElem?_of_mem hp
            exact hpa j (List.getElem?_eq_some_iff.1 hj).1 p hj
          have hcm := fun (c d : Count) (hc : c ∈ m.counts) (hd : d ∈ m.counts) => imgd_iff hz hg hal hc hd
          have hxi : ∀ {i : Nat} {c : Count}, m.counts[i]? = some c → (m.counts.map (optC (imLoad m a b)))[i]? = some (optC (imLoad m a b) c) := fun h => at_map h
          have hyi : ∀ {i : Nat} {c : Count}, m.counts[i]? = some c → (m.counts.map (optC Load.opt))[i]? = some (optC Load.opt c) := fun h => at_map h
          have hxl : (m.counts.map (optC (imLoad m a b))).length = m.counts.length := List.length_map _
          have hyl : (m.counts.map (optC Load.opt)).length = m.counts.length := List.length_map _
          have hcx : (m.counts.map (optC (imLoad m a b))).Perm (m.counts.map (optC Load.opt)) ↔ exP m a b := ⟨fun h => ⟨hok, hab1, hab2, hab3, hal, hes, cnt_iff.2 h⟩, fun h => cnt_iff.1 h.2.2.2.2.2.2⟩
          have hst := Grd.start (xs := m.counts.map (optC (imLoad m a b))) (ys := m.counts.map (optC Load.opt))
          rw [hyl] at hst
          repeat' (first | (refine ⟨m.counts.length, m.counts.length, rfl, rfl, Nat.le_refl _, (by omega), (by omega), ?_⟩) | (refine eqv_to ((List.replicate m.counts.length false).map boolRow) (by rw [List.map_replicate]; rfl) ?_) | refine o1 ?_ | refine o2 ?_ | refine k1 ?_ | refine k2 ?_ | refine k3 ?_ | refine k4 ?_ | refine k8 ?_ | refine And.intro ?_ ?_ | (intro h; first | exact Bool.noConfusion h | exact nz _ h | exact nl h | (simp at h; done) | (simp at h; first | (exfalso; omega) | skip) | skip) | exact (by kernel_rfl : drawOk _ _ = true) | refine eqv_len_map ?_ | fail)
          refine loop_for (fun x : Nat × List Bool => [(3, .ptr 0 4 0 0), (8, .pv (.sl 1 ((imgsAll m a b).map natsRow))), (20, .ms 1 1 0 m.counts.length), (21, vint .i64 x.1)])
            (fun x => [some ⟨29, 4, false, .box (pvs m.cells)⟩, some ⟨4, 1, false, .p (x.2.map boolRow)⟩])
            (fun x => x.1 ≤ m.counts.length ∧ Grd (m.counts.map (optC (imLoad m a b))) (m.counts.map (optC Load.opt)) x.1 x.2) (fun x => m.counts.length - x.1) (0, List.replicate m.counts.length false) ⟨Nat.zero_le _, hst⟩ (back [0, 1] rfl rfl (by repeat' (first | exact trivial | exact rfl | refine And.intro ?_ ?_)) (by repeat' (first | exact trivial | exact rfl | refine And.intro ?_ ?_))) ?_
          rintro ⟨i, T⟩ ⟨hi, hG⟩
          dsimp only at hi hG ⊢
          have hTl : T.length = m.counts.length := by rw [hG.len, hyl]
          rcases Nat.lt_or_ge i m.counts.length with hlt | hge3
          · obtain ⟨c, hc⟩ := getE hlt
            have hcmem := List.mem_of_getElem? hc
            repeat' (first | refine o1 ?_ | refine o2 ?_ | refine k1 ?_ | refine k2 ?_ | refine k3 ?_ | refine k4 ?_ | refine k6 ?_ | refine And.intro ?_ ?_ | (intro h; first | exact Bool.noConfusion h | exact nz _ h | exact nl h | (simp at h; done) | (simp at h; first | (exfalso; omega) | skip) | skip) | refine eqv_len_map ?_ | fail)
            refine loop_for (fun k : Nat => [(3, .ptr 0 4 0 0), (8, .pv (.sl 1 ((imgsAll m a b).map natsRow))), (20, .ms 1 1 0 m.counts.length), (21, vint .i64 i), (22, vint .i64 k)])
              (fun k => [some ⟨29, 4, false, .box (pvs m.cells)⟩, some ⟨4, 1, false, .p (T.map boolRow)⟩])
              (fun k => k ≤ m.counts.length ∧ ∀ j, j < k → T[j]? = some false → (m.counts.map (optC Load.opt))[j]? ≠ some (optC (imLoad m a b) c)) (fun k => m.counts.length - k) 0 ⟨Nat.zero_le _, fun j hj => by omega⟩ (back [0, 1] rfl rfl (by repeat' (first | exact trivial | exact rfl | refine And.intro ?_ ?_)) (by repeat' (first | exact trivial | exact rfl | refine And.intro ?_ ?_))) ?_
            intro k ⟨hk, hka⟩
            rcases Nat.lt_or_ge k m.counts.length with hkl | hkg
            · obtain ⟨d, hd⟩ := getE hkl
              have hdmem := List.mem_of_getElem? hd
              obtain ⟨t, ht⟩ := getE (show k < T.length by omega)
              have htr : (T.map boolRow)[k]? = some (boolRow t) := at_map ht
              cases t
              · have him := c_imaged c d (imgsAll m a b) (imLoad m a b) (by have := hld c hcmem; omega) (by have := hld d hdmem; omega) (fun x hx => by
                  obtain ⟨g1, g2, l, g3, g4⟩ := (good_load hg hcmem hx).1
                  exact ⟨g1, g2, _, _, all_at g3, imgs_at (hal l (List.mem_of_getElem? g3)) (by omega), by unfold imLoad; rw [g3]⟩)
                by_cases hcd : imgd (imLoad m a b) c d
                · have hnx := hG.next (hxi hc) ht ((hyi hd).trans (congrArg some ((hcm c d hcmem hdmem).1 hcd).symm))
                  have hsr : (T.map boolRow).set k [.val (.bool true)] = (T.set k true).map boolRow := by rw [List.map_set]; rfl
                  rw [pB_t hcd] at him
                  repeat' (first | (refine idx_ms k rfl hkl ?_) | (refine ⟨_, htr, ?_⟩) | (refine idx_sl (k := i) (at_map hc) rfl ?_) | (refine idx_sl (k := k) (at_map hd) rfl ?_) | (refine eqv_to _ hsr ?_) | refine o1 ?_ | refine o2 ?_ | refine k1 ?_ | refine k2 ?_ | refine k3 ?_ | refine k6 ?_ | refine k8 ?_ | refine And.intro ?_ ?_ | refine o3 ?_ | refine o4 ?_ | (intro h; first | exact Bool.noConfusion h | exact nz _ h | exact nl h | (simp at h; done) | (simp at h; first | (exfalso; omega) | skip) | skip) | exact Nat.le_of_ble_eq_true rfl | exact (by kernel_rfl : drawOk _ _ = true) | refine eqv_zero ?_ | refine eqv_wrap (by omega) (by omega) ?_ | (change vcFunD _ _ _ _ _; refine callD_eq rfl (by repeat' (first | trivial | refine And.intro ?_ ?_ | (show 0 + _ ≤ List.length _; simp))) ALeL.refl (him) rfl ?_) | fail)
                  all_goals first
                    | exact ⟨(i + 1, T.set k true), ⟨by dsimp only; omega, hnx⟩, by dsimp only; omega, back [0, 1] rfl rfl (by repeat' (first | exact trivial | exact rfl | refine And.intro ?_ ?_)) (by repeat' (first | exact trivial | exact rfl | refine And.intro ?_ ?_))⟩
                    | (exfalso; omega)
                · rw [pB_f hcd] at him
                  repeat' (first | (refine idx_ms k rfl hkl ?_) | (refine ⟨_, htr, ?_⟩) | (refine idx_sl (k := i) (at_map hc) rfl ?_) | (refine idx_sl (k := k) (at_map hd) rfl ?_) | refine o1 ?_ | refine o2 ?_ | refine k1 ?_ | refine k2 ?_ | refine k3 ?_ | refine k4 ?_ | refine k6 ?_ | refine And.intro ?_ ?_ | refine o3 ?_ | refine o4 ?_ | (intro h; first | exact Bool.noConfusion h | exact nz _ h | exact nl h | (simp at h; done) | (simp at h; first | (exfalso; omega) | skip) | skip) | exact (by kernel_rfl : drawOk _ _ = true) | refine eqv_zero ?_ | refine eqv_wrap (by omega) (by omega) ?_ | (change vcFunD _ _ _ _ _; refine callD_eq rfl (by repeat' (first | trivial | refine And.intro ?_ ?_ | (show 0 + _ ≤ List.length _; simp))) ALeL.refl (him) rfl ?_) | fail)
                  exact ⟨k + 1, ⟨by omega, all_lt_succ hka fun _ e => hcd ((hcm c d hcmem hdmem).2 (Option.some.inj ((hyi hd).symm.trans e)).symm)⟩, by omega, back [0, 1] rfl rfl (by repeat' (first | exact trivial | exact rfl | refine And.intro ?_ ?_)) (by repeat' (first | exact trivial | exact rfl | refine And.intro ?_ ?_))⟩
              · repeat' (first | (refine idx_ms k rfl hkl ?_) | (refine ⟨_, htr, ?_⟩) | refine o1 ?_ | refine o2 ?_ | refine k1 ?_ | refine k2 ?_ | refine k3 ?_ | refine k4 ?_ | refine k6 ?_ | refine And.intro ?_ ?_ | refine o3 ?_ | refine o4 ?_ | (intro h; first | exact Bool.noConfusion h | exact nz _ h | exact nl h | (simp at h; done) | (simp at h; first | (exfalso; omega) | skip) | skip) | exact (by kernel_rfl : drawOk _ _ = true) | refine eqv_zero ?_ | refine eqv_wrap (by omega) (by omega) ?_ | fail)
                exact ⟨k + 1, ⟨by omega, all_lt_succ hka fun e => by rw [ht] at e; cases e⟩, by omega, back [0, 1] rfl rfl (by repeat' (first | exact trivial | exact rfl | refine And.intro ?_ ?_)) (by repeat' (first | exact trivial | exact rfl | refine And.intro ?_ ?_))⟩
            · obtain rfl : k = m.counts.length := by omega
              have hno : ¬ exP m a b := fun h => hG.stop (hxi hc) (fun k hk hy => hka k (by have := (List.getElem?_eq_some_iff.1 hk).1; omega) hk hy) (hcx.2 h)
              repeat' (first | refine o1 ?_ | refine o2 ?_ | refine k1 ?_ | refine k2 ?_ | refine k3 ?_ | refine k7 ?_ | refine k8 ?_ | refine And.intro ?_ ?_ | refine o3 ?_ | refine o4 ?_ | (intro h; first | exact Bool.noConfusion h | exact nz _ h | exact nl h | (simp at h; done) | (simp at h; first | (exfalso; omega) | skip) | skip) | (change retOk _ _ _ _; refine ret_pure rfl trivial ?_) | exact (by kernel_rfl : drawOk _ _ = true) | fail)
              all_goals first
                | exact leq_ex hno
                | (exfalso; omega)
          · obtain rfl : i = m.counts.length := by omega
            rw [← hxl] at hG
            have hP := hcx.1 (hG.all (hxl.trans hyl.symm))
            repeat' (first | refine o1 ?_ | refine o2 ?_ | refine k1 ?_ | refine k2 ?_ | refine k3 ?_ | refine k7 ?_ | refine k8 ?_ | refine And.intro ?_ ?_ | (intro h; first | exact Bool.noConfusion h | exact nz _ h | exact nl h | (simp at h; done) | (simp at h; first | (exfalso; omega) | skip) | skip) | (change retOk _ _ _ _; refine ret_pure rfl trivial ?_) | refine eqv_len_map ?_ | fail)
            rw [pB_t hP]
            unfold exV
            rw [if_pos (pB_t hP)]
            exact ⟨ALe.refl⟩
    · have hno : ¬ exP m a b := fun h => hab ⟨h.2.1, h.2.2.1, h.2.2.2.1⟩
      refine acall_of tok mixed 188 rfl (fn := Tryz.f14) (c := Tryz.f14.body.getD .skip) (by kernel_rfl) (by kernel_rfl) (by kernel_rfl) rfl 0 rfl ?_
      repeat' (first | refine o1 ?_ | refine o2 ?_ | refine k1 ?_ | refine k2 ?_ | refine k3 ?_ | refine k7 ?_ | refine And.intro ?_ ?_ | (intro h; first | exact Bool.noConfusion h | exact nz _ h | exact nl h | (simp at h; done) | (simp at h; first | (exfalso; omega) | skip) | skip) | (change retOk _ _ _ _; refine ret_pure rfl trivial ?_) | (change vcFun _ _ _ _ _; refine call_eq rfl (by repeat' (first | trivial | refine And.intro ?_ ?_ | (show 0 + _ ≤ List.length _; simp))) ALeL.refl (hv) rfl ?_) | fail)
      all_goals first
        | (exfalso; omega)
        | exact leq_ex hno
        | (exfalso; exact hab ⟨by assumption, by omega, by omega⟩)
  · have hno : ¬ exP m a b := fun h => hok h.1
    generalize modelE m = E at hv hok
    refine acall_of tok mixed 188 rfl (fn := Tryz.f14) (c := Tryz.f14.body.getD .skip) (by kernel_rfl) (by kernel_rfl) (by kernel_rfl) rfl 0 rfl ?_
    repeat' (first | refine o1 ?_ | refine o2 ?_ | refine k1 ?_ | refine k2 ?_ | refine k3 ?_ | refine k7 ?_ | refine And.intro ?_ ?_ | (intro h; first | exact Bool.noConfusion h | exact nz _ h | exact nl h | (simp at h; done) | (simp at h; first | (exfalso; omega) | skip) | skip) | (change retOk _ _ _ _; refine ret_pure rfl trivial ?_) | (change vcFun _ _ _ _ _; refine call_eq rfl (by repeat' (first | trivial | refine And.intro ?_ ?_ | (show 0 + _ ≤ List.length _; simp))) ALeL.refl (hv) rfl ?_) | fail)
    all_goals first
      | (exfalso; omega)
      | exact leq_ex hno
theorem c_rSwap (m : Model) (a b : Int) (hl : Laid m) : PCall Tryz.prog 14 [ag m.cells, vint .i64 a, vint .i64 b] (fun r => r = .tup [.pv (.sl 1 ((exV m a b).map natsRow)), vbool (pB (exP m a b))]) :=
  (c_rSwap0 m a b hl).weak fun r k => ⟨_, k.le, rfl⟩
end Go.Proofs.YtihpjcmloecaaaaGreat.Cw
/-
  Symmetry: the rooms of a model, ascending, on both sides.
-/
namespace Go.Proofs.YtihpjcmloecaaaaGreat.Cw
open Go Go.Cw Go.Proofs
set_option linter.unusedVariables false
set_option maxRecDepth 100000
set_option maxHeartbeats 8000000
def roomL (l : List Opt) : List Int := (l.map fun o => o.place.room).filter fun r => decide (0 ≤ r)
def roomsR (c : List (List Opt)) : List Int := c.flatMap roomL
def roomsV (m : Model) : List Int := compactI (sortI (roomsR m.classes))
theorem roomL_t {l : List Opt} {k : Nat} {o : Opt} (h : l[k]? = some o) (hr : 0 ≤ o.place.room) : roomL (l.take (k + 1)) = roomL (l.take k) ++ [o.place.room] := by
  unfold roomL; rw [tk_snoc h, List.map_append, List.filter_append]; simp [hr]
theorem roomL_f {l : List Opt} {k : Nat} {o : Opt} (h : l[k]? = some o) (hr : ¬ 0 ≤ o.place.room) : roomL (l.take (k + 1)) = roomL (l.take k) := by
  unfold roomL; rw [tk_snoc h, List.map_append, List.filter_append]; simp; omega
theorem roomsR_succ {c : List (List Opt)} {i : Nat} {l : List Opt} (h : c[i]? = some l) : roomsR (c.take (i + 1)) = roomsR (c.take i) ++ roomL l := by
  unfold roomsR; rw [tk_snoc h, List.flatMap_append]; simp
theorem roomL_len {l : List Opt} : (roomL l).length ≤ l.length := by
  unfold roomL
  have := List.length_filter_le (fun r => decide ((0 : Int) ≤ r)) (l.map fun o => o.place.room)
  rwa [List.length_map] at this
theorem roomsR_len {c : List (List Opt)} (h : ∀ l ∈ c, l.length ≤ 24) : (roomsR c).length ≤ c.length * 24 := by
  induction c with
  | nil => simp [roomsR]
  | cons l c ih =>
    have h1 := ih fun x hx => h x (by simp [hx])
    have h2 := h l (by simp)
    have h3 := roomL_len (l := l)
    have e : roomsR (l :: c) = roomL l ++ roomsR c := rfl
    rw [e, List.length_append, List.length_cons]
    omega
theorem sl_ne {id z : Nat} {α : Type} {f : α → List PV} {L : List α} (h : L ≠ []) {n : Nat} (hn : L.length = n) : slP id z (L.map f) = .ms id z 0 n := by
  subst hn
  cases L with
  | nil => exact absurd rfl h
  | cons a l => simp [slP]
theorem ob_ne {ty z : Nat} {α : Type} {f : α → List PV} {L : List α} (h : L ≠ []) : obP ty z (L.map f) = some ⟨ty, z, false, .p (L.map f)⟩ := by
  cases L with
  | nil => exact absurd rfl h
  | cons a l => rfl
theorem c_numbers0 (m : Model) (hz : sizedP m) : PCall Tryz.prog 41 [ag m.cells] (fun r => Leq r (.pv (.sl 1 ((roomsV m).map intRow)))) := by
  obtain ⟨z1, z2, z3, z4, z5⟩ := hz
  have hRl : ∀ i, (roomsR (m.classes.take i)).length ≤ 576 := fun i => by
    have h1 := roomsR_len (c := m.classes.take i) fun l hl => z2 l (List.mem_of_mem_take hl)
    have h2 : (m.classes.take i).length ≤ 24 := Nat.le_trans (List.length_take_le' ..) z1
    omega
  refine acall_of tok mixed 37 rfl (fn := Tryz.f41) (c := Tryz.f41.body.getD .skip) (by kernel_rfl) (by kernel_rfl) (by kernel_rfl) rfl 0 rfl ?_
  repeat' (first | refine o1 ?_ | refine o2 ?_ | refine k1 ?_ | refine k2 ?_ | refine k4 ?_ | refine eqv_len_map ?_ | fail)
  refine loop_for (fun i : Nat => [(3, slP 1 1 ((roomsR (m.classes.take i)).map intRow)), (9, .pv (.sl 1 (m.classes.map optsRow))), (10, vint .i64 m.classes.length), (11, vint .i64 i)])
    (fun i => [none, obP 3 1 ((roomsR (m.classes.take i)).map intRow)])
    (fun i => i ≤ m.classes.length) (fun i => m.classes.length - i) 0 (Nat.zero_le _) ?_ ?_
  · exact back [0, 1] rfl rfl (by repeat' (first | exact trivial)) (by repeat' (first | exact trivial | exact rfl | refine And.intro ?_ ?_))
  intro i hi
  rcases Nat.lt_or_ge i m.classes.length with hlt | hge
  · obtain ⟨l, hl⟩ := getE hlt
    have hln := z2 l (List.mem_of_getElem? hl)
    have hnx := roomsR_succ hl
    have hR := hRl i
    generalize roomsR (m.classes.take i) = RS at *
    repeat' (first | (refine fh_ob ?_) | (refine idx_sl (k := i) (at_map hl) rfl ?_) | refine o1 ?_ | refine o2 ?_ | refine k1 ?_ | refine k2 ?_ | refine k3 ?_ | refine k4 ?_ | refine k6 ?_ | refine And.intro ?_ ?_ | (intro h; first | exact Bool.noConfusion h | exact nz _ h | exact nl h | (simp at h; done) | (simp at h; first | (exfalso; omega) | skip) | skip) | refine eqv_len_map ?_ | fail)
    refine loop_for (fun k : Nat => [(3, slP 1 1 ((RS ++ roomL (l.take k)).map intRow)), (9, .pv (.sl 1 (m.classes.map optsRow))), (10, vint .i64 m.classes.length), (11, vint .i64 i), (15, .pv (.sl 6 (l.map Opt.row))), (16, vint .i64 l.length), (17, vint .i64 k)])
      (fun k => [none, obP 3 1 ((RS ++ roomL (l.take k)).map intRow)])
      (fun k => k ≤ l.length) (fun k => l.length - k) 0 (Nat.zero_le _) ?_ ?_
    · rw [show RS ++ roomL (l.take 0) = RS by simp [roomL]]
      exact back [0, 1] rfl rfl (by repeat' (first | exact trivial | refine kept_ob rfl ?_)) (by repeat' (first | exact trivial | exact rfl | exact ren_get rfl | refine And.intro ?_ ?_))
    intro k hk
    rcases Nat.lt_or_ge k l.length with hkl | hkg
    · obtain ⟨o, ho⟩ := getE hkl
      have hk2 : (RS ++ roomL (l.take k)).length ≤ 600 := by
        have := roomL_len (l := l.take k)
        have h3 : (l.take k).length ≤ 24 := Nat.le_trans (List.length_take_le' ..) hln
        rw [List.length_append]; omega
      by_cases hr : 0 ≤ o.place.room
      · have hrs : RS ++ roomL (l.take (k + 1)) = (RS ++ roomL (l.take k)) ++ [o.place.room] := by rw [roomL_t ho hr, List.append_assoc]
        generalize RS ++ roomL (l.take k) = KS at *
        repeat' (first | (refine fv_sl ?_) | (refine fh_ob ?_) | (refine idx_sl (k := k) (at_map ho) rfl ?_) | ((refine o_app rfl rfl rfl rfl rfl rfl rfl rfl rfl rfl rfl (by rw [List.length_map]; omega) (by rw [List.length_map]; omega) ?_)) | refine o1 ?_ | refine o2 ?_ | refine k1 ?_ | refine k2 ?_ | refine k3 ?_ | refine k4 ?_ | refine k6 ?_ | refine And.intro ?_ ?_ | (intro h; first | exact Bool.noConfusion h | exact nz _ h | exact nl h | (simp at h; done) | (simp at h; first | (exfalso; omega) | skip) | skip) | exact (by kernel_rfl : drawOk _ _ = true) | refine eqv_wrap (by omega) (by omega) ?_ | fail)
        all_goals first
          | (exfalso; omega)
          | (refine ⟨k + 1, by omega, by omega, ?_⟩
             rw [hrs, map_snoc, sl_app, ob_app]
             exact back [0, 4] rfl rfl (by repeat' (first | exact trivial | exact rfl | refine And.intro ?_ ?_)) (by repeat' (first | exact trivial | exact rfl | refine And.intro ?_ ?_)))
      · have hrs : RS ++ roomL (l.take (k + 1)) = RS ++ roomL (l.take k) := by rw [roomL_f ho hr]
        repeat' (first | (refine fh_ob ?_) | (refine idx_sl (k := k) (at_map ho) rfl ?_) | refine o1 ?_ | refine o2 ?_ | refine k1 ?_ | refine k2 ?_ | refine k3 ?_ | refine k4 ?_ | refine k6 ?_ | refine And.intro ?_ ?_ | (intro h; first | exact Bool.noConfusion h | exact nz _ h | exact nl h | (simp at h; done) | (simp at h; first | (exfalso; omega) | skip) | skip) | exact (by kernel_rfl : drawOk _ _ = true) | refine eqv_wrap (by omega) (by omega) ?_ | fail)
        all_goals first
          | (exfalso; omega)
          | (refine ⟨k + 1, by omega, by omega, ?_⟩
             rw [hrs]
             exact back [0, 1] rfl rfl (by repeat' (first | exact trivial | refine kept_ob rfl ?_)) (by repeat' (first | exact trivial | exact rfl | exact ren_get rfl | refine And.intro ?_ ?_)))
    · obtain rfl : k = l.length := by omega
      rw [List.take_length, ← hnx]
      repeat' (first | (refine fh_ob ?_) | refine o1 ?_ | refine o2 ?_ | refine k1 ?_ | refine k2 ?_ | refine k3 ?_ | refine k8 ?_ | refine And.intro ?_ ?_ | (intro h; first | exact Bool.noConfusion h | exact nz _ h | exact nl h | (simp at h; done) | (simp at h; first | (exfalso; omega) | skip) | skip) | refine eqv_wrap (by omega) (by omega) ?_ | fail)
      exact ⟨i + 1, by omega, by omega, back [0, 1] rfl rfl (by repeat' (first | exact trivial | refine kept_ob rfl ?_)) (by repeat' (first | exact trivial | exact rfl | exact ren_get rfl | refine And.intro ?_ ?_))⟩
  · obtain rfl : i = m.classes.length := by omega
    have hR := hRl m.classes.length
    rw [List.take_length] at hR ⊢
    by_cases hne : roomsR m.classes = []
    · have e : roomsV m = [] := by
        have h1 := compactI_len (sortI (roomsR m.classes))
        rw [sortI_len, hne] at h1
        unfold roomsV; rw [hne]; exact List.eq_nil_of_length_eq_zero (Nat.le_zero.1 h1)
      rw [hne, e]
      repeat' (first | (refine fh_ob ?_) | refine o1 ?_ | refine o2 ?_ | refine k1 ?_ | refine k2 ?_ | refine k3 ?_ | refine k7 ?_ | refine k8 ?_ | refine And.intro ?_ ?_ | (intro h; first | exact Bool.noConfusion h | exact nz _ h | exact nl h | (simp at h; done) | (simp at h; first | (exfalso; omega) | skip) | skip) | (change retOk _ _ _ _; refine ret_pure rfl trivial ?_) | (change vcFun _ _ _ _ _; refine call_eq rfl (by repeat' (first | trivial | refine And.intro ?_ ?_ | (show 0 + _ ≤ List.length _; simp))) ALeL.refl (c_sortI0) rfl ?_) | (change vcFun _ _ _ _ _; refine call_eq rfl (by repeat' (first | trivial | refine And.intro ?_ ?_ | (show 0 + _ ≤ List.length _; simp))) ALeL.refl (c_compactI0) rfl ?_) | fail)
      exact ⟨ALe.pv PLe.nil⟩
    · have hso := c_sortI (roomsR m.classes) hne (by omega)
      have hne2 : sortI (roomsR m.classes) ≠ [] := fun e => hne (List.eq_nil_of_length_eq_zero (by rw [← sortI_len, e]; rfl))
      have hco := c_compactI (sortI (roomsR m.classes)) hne2 (by rw [sortI_len]; omega)
      rw [sortI_len] at hco
      rw [sl_ne hne rfl, ob_ne hne]
      repeat' (first | ((change vcFun _ _ _ _ _; refine call_one (i := 1) rfl (fun _ _ => rfl) [.ms 0 1 0 (roomsR m.classes).length] rfl hso ?_; rintro r H' ⟨rfl, rfl⟩; refine ⟨_, rfl, fun _ _ => rfl, fun _ _ => rfl, ?_⟩)) | refine o1 ?_ | refine o2 ?_ | refine k1 ?_ | refine k2 ?_ | refine k3 ?_ | refine k8 ?_ | refine And.intro ?_ ?_ | (intro h; first | exact Bool.noConfusion h | exact nz _ h | exact nl h | (simp at h; done) | (simp at h; first | (exfalso; omega) | skip) | skip) | fail)
      change vcFun _ _ _ _ _
      refine call_obj [1] [some ⟨3, 1, false, .p ((sortI (roomsR m.classes)).map intRow)⟩] [.ms 0 1 0 (roomsR m.classes).length] rfl ⟨rfl, trivial⟩ rfl hco ?_
      rintro r H' ⟨rfl, zs, rfl⟩
      have hfin : Leq (.pv (.sl 1 ((List.map intRow (compactI (sortI (roomsR m.classes))) ++ List.map intRow zs).drop 0 |>.take (compactI (sortI (roomsR m.classes))).length))) (.pv (.sl 1 ((roomsV m).map intRow))) := by
        rw [List.drop_zero, List.take_append_of_le_length (by rw [List.length_map]; exact Nat.le_refl _), List.take_of_length_le (by rw [List.length_map]; exact Nat.le_refl _)]
        exact ⟨ALe.refl⟩
      have hle : 0 + (compactI (sortI (roomsR m.classes))).length ≤ (List.map intRow (compactI (sortI (roomsR m.classes))) ++ List.map intRow zs).length := by
        rw [List.length_append, List.length_map]; omega
      generalize (compactI (sortI (roomsR m.classes))) = C at *
      refine ⟨Nat.le_refl _, ?_⟩
      repeat' (first | refine o1 ?_ | refine o2 ?_ | refine k7 ?_ | fail)
      exact ret_pure rfl (by repeat' (first | exact hle)) hfin
theorem c_numbers (m : Model) (hz : sizedP m) : PCall Tryz.prog 41 [ag m.cells] (fun r => r = .pv (.sl 1 ((roomsV m).map intRow))) := (c_numbers0 m hz).weak fun r k => ⟨_, k.le, rfl⟩
end Go.Proofs.YtihpjcmloecaaaaGreat.Cw
