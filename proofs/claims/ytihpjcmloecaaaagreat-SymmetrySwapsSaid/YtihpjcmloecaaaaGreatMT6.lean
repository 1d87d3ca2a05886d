/-
  Part 6 of the proof (MkC, MkD, Mk2, SE5, M8, Mk3, Mk5, Mk5a, Mk5b, Mk5c, Mk5d, Mk6, SE6): what later parts use. No conditions.
-/
import Derived.Test.YtihpjcmloecaaaaGreatMT5
/-
  Made models: the walk, pairs.
-/
namespace Go.Proofs.YtihpjcmloecaaaaGreat.Cw
open Go.Cw Go.Proofs
set_option linter.unusedVariables false
set_option maxRecDepth 100000
set_option maxHeartbeats 30000000
theorem stageC {Q : Exit → Slots → Heap → Prop} {rest : Code} (t : List Int) (ht : t.length ≤ 400) (a b : Int) (r : Int) (r1 : 1 ≤ r) (r2 : r ≤ 4) (k : Nat) (cls : List (List Opt)) (s1 : k ≤ t.length) (s2 : cls.length ≤ 5) (hcls : ∀ l ∈ cls, ClsQ r l)
    (later : Later (∀ x : Nat × List Pair, (x.1 ≤ t.length ∧ (∀ j, j < x.2.length → pairAt ⟨cls, x.2, [], r⟩ j) ∧ x.2.length ≤ 200) → forceH [dice t x.1, zeroM, mb (.pv (.sl 1 (cls.map optsRow))) (.pv (.sl 4 (x.2.map Pair.row))) nilA r] fun H1 => xCode Tryz.prog T 199 1 rest Q ([] ++ [(7, .ptr 2 4 0 0), (6, .ptr (0 + 1) 4 0 0), (0, .ptr 0 2 0 0), (0 + 1, vint .i64 a), (0 + 1 + 1, vint .i64 b)]) H1)) :
    xCode Tryz.prog T 199 1 (.seq codeC rest) Q ([] ++ [(7, .ptr 2 4 0 0), (6, .ptr (0 + 1) 4 0 0), (0, .ptr 0 2 0 0), (0 + 1, vint .i64 a), (0 + 1 + 1, vint .i64 b)]) [dice t k, zeroM, mb (.pv (.sl 1 (cls.map optsRow))) nilA nilA r] := by
  show xCode _ _ _ _ (.seq (.seq (.region 18 _ _) _) rest) _ _ _
  dsimp only [zeroM, mb, nilA]
  repeat' (first | (refine join_in (a := .seq (.region 18 _ _) _) (fun _ => []) (fun x : Nat × List Pair => [dice t x.1, zeroM, mb (.pv (.sl 1 (cls.map optsRow))) (.pv (.sl 4 (x.2.map Pair.row))) nilA r]) (fun x => x.1 ≤ t.length ∧ (∀ j, j < x.2.length → pairAt ⟨cls, x.2, [], r⟩ j) ∧ x.2.length ≤ 200) ?_) | refine o1 ?_ | refine o2 ?_ | refine k1 ?_ | refine k2 ?_ | refine k4 ?_ | refine And.intro ?_ ?_ | fail)
  · refine loop_in (fun x : Nat × Nat × List Pair => [(14, vint .i64 x.1)]) (fun x => [dice t x.2.1, zeroM, mb (.pv (.sl 1 (cls.map optsRow))) (slP 3 4 (List.map Pair.row (x.2.2))) nilA r, obP 72 4 (List.map Pair.row (x.2.2))]) (fun x => x.1 ≤ r.toNat ∧ x.2.1 ≤ t.length ∧ PrQ cls r x.2.2 x.1 0 0) (fun x => r.toNat - x.1) (0, k, []) ⟨Nat.zero_le _, s1, PrQ.nil⟩ ⟨?_, ?_⟩
    · exact back [0, 1, 2, 3] rfl rfl (by repeat' (first | exact trivial | exact rfl | refine And.intro ?_ ?_)) (by repeat' (first | exact trivial | exact rfl | refine And.intro ?_ ?_))
    rintro ⟨u, k, prs⟩ ⟨u1, u2, u3⟩
    dsimp only at u1 u2 u3
    have ul := u3.len
    rcases prs with _ | ⟨p0, prs⟩
    · simp only [List.length_cons, List.length_nil] at ul
      dsimp only [slP, obP, zeroM, mb, ob5, pb4, nilA, List.map, List.length_cons, List.length_nil, List.length_map]
      rcases Nat.lt_or_ge u r.toNat with hu | hu
      · have hu1 : (u : Int) < r := by omega
        repeat' (first | refine o1 ?_ | refine o2 ?_ | refine k1 ?_ | refine k2 ?_ | refine k3 ?_ | refine k4 ?_ | refine k6 ?_ | refine And.intro ?_ ?_ | (intro h; first | exact Bool.noConfusion h | exact nz _ h | exact nl h | (simp at h; done) | (simp at h; first | (exfalso; omega) | skip) | skip) | fail)
        refine loop_in (fun x : Nat × Nat × List Pair => [(15, vint .i64 x.1)]) (fun x => [dice t x.2.1, zeroM, mb (.pv (.sl 1 (cls.map optsRow))) (slP 3 4 (List.map Pair.row (x.2.2))) nilA r, obP 72 4 (List.map Pair.row (x.2.2))]) (fun x => x.1 ≤ cls.length ∧ x.2.1 ≤ t.length ∧ PrQ cls r x.2.2 u x.1 0) (fun x => cls.length - x.1) (0, k, []) ⟨Nat.zero_le _, u2, u3⟩ ⟨?_, ?_⟩
        · exact back [0, 1, 2, 3] rfl rfl (by repeat' (first | exact trivial | exact rfl | refine And.intro ?_ ?_)) (by repeat' (first | exact trivial | exact rfl | refine And.intro ?_ ?_))
        rintro ⟨i, k, prs⟩ ⟨i1, i2, i3⟩
        dsimp only at i1 i2 i3
        have il := i3.len
        rcases Nat.lt_or_ge i cls.length with hi1 | hi1
        · rcases prs with _ | ⟨p0, prs⟩
          · dsimp only [slP, obP, zeroM, mb, ob5, pb4, nilA, List.map, List.length_cons, List.length_nil, List.length_map]
            repeat' (first | refine o1 ?_ | refine o2 ?_ | refine k1 ?_ | refine k2 ?_ | refine k3 ?_ | refine k4 ?_ | refine k6 ?_ | refine And.intro ?_ ?_ | (intro h; first | exact Bool.noConfusion h | exact nz _ h | exact nl h | (simp at h; done) | (simp at h; first | (exfalso; omega) | skip) | skip) | refine eqv_len_map ?_ | refine eqv_wrap (by omega) (by omega) ?_ | fail)
            refine loop_in (fun x : Nat × Nat × List Pair => [(16, vint .i64 x.1)]) (fun x => [dice t x.2.1, zeroM, mb (.pv (.sl 1 (cls.map optsRow))) (slP 3 4 (List.map Pair.row (x.2.2))) nilA r, obP 72 4 (List.map Pair.row (x.2.2))]) (fun x => (i < x.1 ∧ x.1 ≤ cls.length) ∧ x.2.1 ≤ t.length ∧ PrQ cls r x.2.2 u i x.1) (fun x => cls.length - x.1) (i + 1, k, []) ⟨⟨by dsimp only; omega, by dsimp only; omega⟩, i2, i3.toK⟩ ⟨?_, ?_⟩
            · exact back [0, 1, 2, 3] rfl rfl (by repeat' (first | exact trivial | exact rfl | refine And.intro ?_ ?_)) (by repeat' (first | exact trivial | exact rfl | refine And.intro ?_ ?_))
            rintro ⟨kk, k, prs⟩ ⟨⟨j0, j1⟩, j2, j3⟩
            dsimp only at j0 j1 j2 j3
            have jl := j3.len
            rcases prs with _ | ⟨p0, prs⟩
            · simp only [List.length_cons, List.length_nil] at jl
              dsimp only [slP, obP, zeroM, mb, ob5, pb4, nilA, List.map, List.length_cons, List.length_nil, List.length_map]
              rcases Nat.lt_or_ge kk cls.length with hkk | hkk
              · obtain ⟨la, hla⟩ := getE hi1
                obtain ⟨lb, hlb⟩ := getE hkk
                have hq1 := hcls la (List.mem_of_getElem? hla)
                have hq2 := hcls lb (List.mem_of_getElem? hlb)
                have hab : la.length * lb.length ≤ 16 := Nat.mul_le_mul hq1.2.1 hq2.2.1
                have hcast : ((la.length * lb.length : Nat) : Int) = (la.length : Int) * lb.length := by simp
                have hab1 : (la.length : Int) * lb.length ≤ 16 := by omega
                have hab0 : (0 : Int) ≤ (la.length : Int) * lb.length := by omega
                repeat' (first | (refine idx_sl (k := i) (at_map hla) (by omega) ?_) | (refine idx_sl (k := kk) (at_map hlb) (by omega) ?_) | (refine join_in (a := .seq (.region 29 _ _) _) (fun _ => []) (fun x : Nat × List Int => [dice t x.1, zeroM, mb (.pv (.sl 1 (cls.map optsRow))) (slP 3 4 (List.map Pair.row ([]))) nilA r, obP 72 4 (List.map Pair.row ([])), pb4 i kk u (.pv (encInts x.2))]) (fun x => x.1 ≤ t.length ∧ x.2.length = la.length * lb.length ∧ ∀ y ∈ x.2, y = 0 ∨ priceP y) ?_) | refine o1 ?_ | refine o2 ?_ | refine k1 ?_ | refine k2 ?_ | refine k3 ?_ | refine k4 ?_ | refine k6 ?_ | refine And.intro ?_ ?_ | refine o3 ?_ | refine o4 ?_ | (intro h; first | exact Bool.noConfusion h | exact nz _ h | exact nl h | (simp at h; done) | (simp at h; first | (exfalso; omega) | skip) | skip) | exact (by kernel_rfl : drawOk _ _ = true) | refine eqv_len_map ?_ | refine eqv_wrap (by omega) (by omega) ?_ | (change vcFun _ _ _ _ _; refine call_one2 0 rfl (by assumption) (by assumption) (by omega) (by omega) ?_; intro bq kq hkq) | fail)
                · refine loop_in (fun x : Nat × Nat × List Int => [(18, vint .i64 x.1)]) (fun x => [dice t x.2.1, zeroM, mb (.pv (.sl 1 (cls.map optsRow))) (slP 3 4 (List.map Pair.row ([]))) nilA r, obP 72 4 (List.map Pair.row ([])), pb4 i kk u (slP 5 1 (List.map (fun n => [ei n]) (x.2.2))), obP 3 1 (List.map (fun n => [ei n]) (x.2.2))]) (fun x => x.1 + x.2.2.length = la.length * lb.length ∧ x.2.1 ≤ t.length ∧ ∀ y ∈ x.2.2, y = 0 ∨ priceP y) (fun x => x.1) (la.length * lb.length, kq, []) ⟨by simp, hkq, fun y hy => absurd hy List.not_mem_nil⟩ ⟨?_, ?_⟩
                  · exact back [0, 1, 2, 3, 4, 5] rfl rfl (by repeat' (first | exact trivial | exact rfl | refine And.intro ?_ ?_)) ⟨slot_eq rfl (congrArg (vint .i64) hcast.symm), (by repeat' (first | exact trivial | exact rfl | refine And.intro ?_ ?_))⟩
                  rintro ⟨j, k, tb⟩ ⟨t1, t2, t3⟩
                  dsimp only at t1 t2 t3
                  rcases tb with _ | ⟨b0, tb⟩
                  · simp only [List.length_cons, List.length_nil] at t1
                    dsimp only [slP, obP, zeroM, mb, ob5, pb4, nilA, List.map, List.length_cons, List.length_nil, List.length_map]
                    rcases Nat.eq_zero_or_pos j with rfl | hj
                    · repeat' (first | refine o1 ?_ | refine o2 ?_ | refine k1 ?_ | refine k2 ?_ | refine k3 ?_ | refine k8 ?_ | refine And.intro ?_ ?_ | (intro h; first | exact Bool.noConfusion h | exact nz _ h | exact nl h | (simp at h; done) | (simp at h; first | (exfalso; omega) | skip) | skip) | fail)
                      exact ⟨(k, []), ⟨t2, by simp; omega, t3⟩, Ghost.trans (Ghost.shut (i := 4) (c := 3) (x := .pv (.val (.slice none 0 0))) rfl rfl rfl (by repeat' (first | trivial)) (show ¬ (4 ∈ ([] : List Nat)) by decide) (ALe.pv PLe.nil)) (back [0, 1, 2, 3, 4] rfl rfl (by repeat' (first | exact trivial | exact rfl | refine And.intro ?_ ?_)) (by repeat' (first | exact trivial | exact rfl | refine And.intro ?_ ?_)))⟩
                    · repeat' (first | ((change vcFunD _ _ _ _ _; refine callD_cost 0 rfl (by assumption) (by assumption) ?_; intro cn kc hcn hkc)) | refine o1 ?_ | refine o2 ?_ | refine k1 ?_ | refine k2 ?_ | refine k3 ?_ | refine k4 ?_ | refine k6 ?_ | refine And.intro ?_ ?_ | refine o3 ?_ | refine o4 ?_ | (intro h; first | exact Bool.noConfusion h | exact nz _ h | exact nl h | (simp at h; done) | (simp at h; first | (exfalso; omega) | skip) | skip) | (refine (?_ : srcLen _ = rowsLen _); rfl) | exact Nat.le_of_ble_eq_true rfl | exact (by kernel_rfl : drawOk _ _ = true) | refine eqv_wrap (by omega) (by omega) ?_ | refine eqv_to _ (app_first rfl) (eqv_to 1 rfl ?_) | fail)
                      exact ⟨(j - 1, kc, [cn]), ⟨by show j - 1 + List.length _ = _; simp; try omega, hkc, all_app (l := []) t3 hcn⟩, (by show j - 1 < j; omega), back [0, 1, 2, 3, 4, 7] rfl rfl (by repeat' (first | exact trivial | exact rfl | refine And.intro ?_ ?_)) ⟨slot_eq rfl (congrArg (vint .i64) (by show _ = ((j - 1 : Nat) : Int); omega)), (by repeat' (first | exact trivial | exact rfl | refine And.intro ?_ ?_))⟩⟩
                  · simp only [List.length_cons, List.length_nil] at t1
                    dsimp only [slP, obP, zeroM, mb, ob5, pb4, nilA, List.map, List.length_cons, List.length_nil, List.length_map]
                    rcases Nat.eq_zero_or_pos j with rfl | hj
                    · repeat' (first | refine o1 ?_ | refine o2 ?_ | refine k1 ?_ | refine k2 ?_ | refine k3 ?_ | refine k8 ?_ | refine And.intro ?_ ?_ | (intro h; first | exact Bool.noConfusion h | exact nz _ h | exact nl h | (simp at h; done) | (simp at h; first | (exfalso; omega) | skip) | skip) | fail)
                      exact ⟨(k, b0 :: tb), ⟨t2, by simp only [List.length_cons]; omega, t3⟩, Ghost.trans (Ghost.shut (i := 4) (c := 3) (x := .ms 5 1 0 ((List.map (fun n => [ei n]) tb).length + 1)) rfl rfl rfl (by repeat' (first | (show 0 + _ ≤ List.length _; simp))) (show ¬ (4 ∈ ([5] : List Nat)) by decide) (ALe.pv (whole_le (f := fun n => [ei n]) (l := b0 :: tb) (by simp)))) (back [0, 1, 2, 3, 4] rfl rfl (by repeat' (first | exact trivial | exact rfl | refine And.intro ?_ ?_)) (by repeat' (first | exact trivial | exact rfl | refine And.intro ?_ ?_)))⟩
                    · repeat' (first | ((change vcFunD _ _ _ _ _; refine callD_cost 0 rfl (by assumption) (by assumption) ?_; intro cn kc hcn hkc)) | (refine app_consm (f := fun n => [ei n]) cn rfl ?_) | refine o1 ?_ | refine o2 ?_ | refine k1 ?_ | refine k2 ?_ | refine k3 ?_ | refine k4 ?_ | refine k6 ?_ | refine And.intro ?_ ?_ | refine o3 ?_ | refine o4 ?_ | (intro h; first | exact Bool.noConfusion h | exact nz _ h | exact nl h | (simp at h; done) | (simp at h; first | (exfalso; omega) | skip) | skip) | (refine (?_ : srcLen _ = rowsLen _); rfl) | exact (by kernel_rfl : drawOk _ _ = true) | refine eqv_wrap (by omega) (by omega) ?_ | (refine (?_ : _ ≤ 140737488355328); simp [rowsLen] <;> omega) | (refine (?_ : _ ≤ 9223372036854775807); simp [rowsLen] <;> omega) | (refine (?_ : _ = rowsLen _); simp [rowsLen] <;> omega) | fail)
                      exact ⟨(j - 1, kc, b0 :: (tb ++ [cn])), ⟨by show j - 1 + List.length _ = _; simp; try omega, hkc, all_app (l := b0 :: tb) t3 hcn⟩, (by show j - 1 < j; omega), back [0, 1, 2, 3, 4, 7] rfl rfl (by repeat' (first | exact trivial | exact rfl | refine And.intro ?_ ?_)) ⟨slot_eq rfl (congrArg (vint .i64) (by show _ = ((j - 1 : Nat) : Int); omega)), (by repeat' (first | exact trivial | exact rfl | refine And.intro ?_ ?_))⟩⟩
                · refine ⟨?_⟩
                  rintro ⟨k, tb⟩ ⟨f1, f2, f3⟩
                  dsimp only at f1 f2 f3
                  dsimp only [slP, obP, zeroM, mb, ob5, pb4, nilA, List.map, List.length_cons, List.length_nil, List.length_map]
                  repeat' (first | refine o1 ?_ | refine o2 ?_ | refine k2 ?_ | refine And.intro ?_ ?_ | (intro h; first | exact Bool.noConfusion h | exact nz _ h | exact nl h | (simp at h; done) | (simp at h; first | (exfalso; omega) | skip) | skip) | (refine (?_ : srcLen _ = rowsLen _); rfl) | exact Nat.le_of_ble_eq_true rfl | refine eqv_wrap (by omega) (by omega) ?_ | refine eqv_to _ (app_first rfl) (eqv_to 1 rfl ?_) | fail)
                  exact ⟨(kk + 1, k, [Pair.mk i kk u tb]), ⟨⟨by show i < kk + 1; omega, by show kk + 1 ≤ _; omega⟩, f1, j3.app (pair_made hla hlb j0 hu1 f2 f3)⟩, (by show _ - (kk + 1) < _; omega), back [0, 1, 2, 6] rfl rfl (by repeat' (first | exact trivial | exact rfl | refine And.intro ?_ ?_)) (by repeat' (first | exact trivial | exact rfl | refine And.intro ?_ ?_))⟩
                · exact ⟨(kk + 1, kq, []), ⟨⟨by show i < kk + 1; omega, by show kk + 1 ≤ _; omega⟩, hkq, j3.skip⟩, (by show _ - (kk + 1) < _; omega), back [0, 1, 2, 3] rfl rfl (by repeat' (first | exact trivial | exact rfl | refine And.intro ?_ ?_)) (by repeat' (first | exact trivial | exact rfl | refine And.intro ?_ ?_))⟩
              · repeat' (first | refine o1 ?_ | refine o2 ?_ | refine k1 ?_ | refine k2 ?_ | refine k3 ?_ | refine k8 ?_ | refine And.intro ?_ ?_ | (intro h; first | exact Bool.noConfusion h | exact nz _ h | exact nl h | (simp at h; done) | (simp at h; first | (exfalso; omega) | skip) | skip) | refine eqv_len_map ?_ | refine eqv_wrap (by omega) (by omega) ?_ | fail)
                exact ⟨(i + 1, k, []), ⟨by show i + 1 ≤ _; omega, j2, j3.toI (by omega)⟩, (by show _ - (i + 1) < _; omega), back [0, 1, 2, 3] rfl rfl (by repeat' (first | exact trivial | exact rfl | refine And.intro ?_ ?_)) (by repeat' (first | exact trivial | exact rfl | refine And.intro ?_ ?_))⟩
            · simp only [List.length_cons, List.length_nil] at jl
              dsimp only [slP, obP, zeroM, mb, ob5, pb4, nilA, List.map, List.length_cons, List.length_nil, List.length_map]
              rcases Nat.lt_or_ge kk cls.length with hkk | hkk
              · obtain ⟨la, hla⟩ := getE hi1
                obtain ⟨lb, hlb⟩ := getE hkk
                have hq1 := hcls la (List.mem_of_getElem? hla)
                have hq2 := hcls lb (List.mem_of_getElem? hlb)
                have hab : la.length * lb.length ≤ 16 := Nat.mul_le_mul hq1.2.1 hq2.2.1
                have hcast : ((la.length * lb.length : Nat) : Int) = (la.length : Int) * lb.length := by simp
                have hab1 : (la.length : Int) * lb.length ≤ 16 := by omega
                have hab0 : (0 : Int) ≤ (la.length : Int) * lb.length := by omega
                repeat' (first | (refine idx_sl (k := i) (at_map hla) (by omega) ?_) | (refine idx_sl (k := kk) (at_map hlb) (by omega) ?_) | (refine join_in (a := .seq (.region 29 _ _) _) (fun _ => []) (fun x : Nat × List Int => [dice t x.1, zeroM, mb (.pv (.sl 1 (cls.map optsRow))) (slP 3 4 (List.map Pair.row (p0 :: prs))) nilA r, obP 72 4 (List.map Pair.row (p0 :: prs)), pb4 i kk u (.pv (encInts x.2))]) (fun x => x.1 ≤ t.length ∧ x.2.length = la.length * lb.length ∧ ∀ y ∈ x.2, y = 0 ∨ priceP y) ?_) | refine o1 ?_ | refine o2 ?_ | refine k1 ?_ | refine k2 ?_ | refine k3 ?_ | refine k4 ?_ | refine k6 ?_ | refine And.intro ?_ ?_ | refine o3 ?_ | refine o4 ?_ | (intro h; first | exact Bool.noConfusion h | exact nz _ h | exact nl h | (simp at h; done) | (simp at h; first | (exfalso; omega) | skip) | skip) | exact (by kernel_rfl : drawOk _ _ = true) | refine eqv_len_map ?_ | refine eqv_wrap (by omega) (by omega) ?_ | (change vcFun _ _ _ _ _; refine call_one2 0 rfl (by assumption) (by assumption) (by omega) (by omega) ?_; intro bq kq hkq) | fail)
                · refine loop_in (fun x : Nat × Nat × List Int => [(18, vint .i64 x.1)]) (fun x => [dice t x.2.1, zeroM, mb (.pv (.sl 1 (cls.map optsRow))) (slP 3 4 (List.map Pair.row (p0 :: prs))) nilA r, obP 72 4 (List.map Pair.row (p0 :: prs)), pb4 i kk u (slP 5 1 (List.map (fun n => [ei n]) (x.2.2))), obP 3 1 (List.map (fun n => [ei n]) (x.2.2))]) (fun x => x.1 + x.2.2.length = la.length * lb.length ∧ x.2.1 ≤ t.length ∧ ∀ y ∈ x.2.2, y = 0 ∨ priceP y) (fun x => x.1) (la.length * lb.length, kq, []) ⟨by simp, hkq, fun y hy => absurd hy List.not_mem_nil⟩ ⟨?_, ?_⟩
                  · exact back [0, 1, 2, 3, 4, 5] rfl rfl (by repeat' (first | exact trivial | exact rfl | refine And.intro ?_ ?_)) ⟨slot_eq rfl (congrArg (vint .i64) hcast.symm), (by repeat' (first | exact trivial | exact rfl | refine And.intro ?_ ?_))⟩
                  rintro ⟨j, k, tb⟩ ⟨t1, t2, t3⟩
                  dsimp only at t1 t2 t3
                  rcases tb with _ | ⟨b0, tb⟩
                  · simp only [List.length_cons, List.length_nil] at t1
                    dsimp only [slP, obP, zeroM, mb, ob5, pb4, nilA, List.map, List.length_cons, List.length_nil, List.length_map]
                    rcases Nat.eq_zero_or_pos j with rfl | hj
                    · repeat' (first | refine o1 ?_ | refine o2 ?_ | refine k1 ?_ | refine k2 ?_ | refine k3 ?_ | refine k8 ?_ | refine And.intro ?_ ?_ | (intro h; first | exact Bool.noConfusion h | exact nz _ h | exact nl h | (simp at h; done) | (simp at h; first | (exfalso; omega) | skip) | skip) | fail)
                      exact ⟨(k, []), ⟨t2, by simp; omega, t3⟩, Ghost.trans (Ghost.shut (i := 4) (c := 3) (x := .pv (.val (.slice none 0 0))) rfl rfl rfl (by repeat' (first | trivial)) (show ¬ (4 ∈ ([] : List Nat)) by decide) (ALe.pv PLe.nil)) (back [0, 1, 2, 3, 4] rfl rfl (by repeat' (first | exact trivial | exact rfl | refine And.intro ?_ ?_)) (by repeat' (first | exact trivial | exact rfl | refine And.intro ?_ ?_)))⟩
                    · repeat' (first | ((change vcFunD _ _ _ _ _; refine callD_cost 0 rfl (by assumption) (by assumption) ?_; intro cn kc hcn hkc)) | refine o1 ?_ | refine o2 ?_ | refine k1 ?_ | refine k2 ?_ | refine k3 ?_ | refine k4 ?_ | refine k6 ?_ | refine And.intro ?_ ?_ | refine o3 ?_ | refine o4 ?_ | (intro h; first | exact Bool.noConfusion h | exact nz _ h | exact nl h | (simp at h; done) | (simp at h; first | (exfalso; omega) | skip) | skip) | (refine (?_ : srcLen _ = rowsLen _); rfl) | exact Nat.le_of_ble_eq_true rfl | exact (by kernel_rfl : drawOk _ _ = true) | refine eqv_wrap (by omega) (by omega) ?_ | refine eqv_to _ (app_first rfl) (eqv_to 1 rfl ?_) | fail)
                      exact ⟨(j - 1, kc, [cn]), ⟨by show j - 1 + List.length _ = _; simp; try omega, hkc, all_app (l := []) t3 hcn⟩, (by show j - 1 < j; omega), back [0, 1, 2, 3, 4, 7] rfl rfl (by repeat' (first | exact trivial | exact rfl | refine And.intro ?_ ?_)) ⟨slot_eq rfl (congrArg (vint .i64) (by show _ = ((j - 1 : Nat) : Int); omega)), (by repeat' (first | exact trivial | exact rfl | refine And.intro ?_ ?_))⟩⟩
                  · simp only [List.length_cons, List.length_nil] at t1
                    dsimp only [slP, obP, zeroM, mb, ob5, pb4, nilA, List.map, List.length_cons, List.length_nil, List.length_map]
                    rcases Nat.eq_zero_or_pos j with rfl | hj
                    · repeat' (first | refine o1 ?_ | refine o2 ?_ | refine k1 ?_ | refine k2 ?_ | refine k3 ?_ | refine k8 ?_ | refine And.intro ?_ ?_ | (intro h; first | exact Bool.noConfusion h | exact nz _ h | exact nl h | (simp at h; done) | (simp at h; first | (exfalso; omega) | skip) | skip) | fail)
                      exact ⟨(k, b0 :: tb), ⟨t2, by simp only [List.length_cons]; omega, t3⟩, Ghost.trans (Ghost.shut (i := 4) (c := 3) (x := .ms 5 1 0 ((List.map (fun n => [ei n]) tb).length + 1)) rfl rfl rfl (by repeat' (first | (show 0 + _ ≤ List.length _; simp))) (show ¬ (4 ∈ ([5] : List Nat)) by decide) (ALe.pv (whole_le (f := fun n => [ei n]) (l := b0 :: tb) (by simp)))) (back [0, 1, 2, 3, 4] rfl rfl (by repeat' (first | exact trivial | exact rfl | refine And.intro ?_ ?_)) (by repeat' (first | exact trivial | exact rfl | refine And.intro ?_ ?_)))⟩
                    · repeat' (first | ((change vcFunD _ _ _ _ _; refine callD_cost 0 rfl (by assumption) (by assumption) ?_; intro cn kc hcn hkc)) | (refine app_consm (f := fun n => [ei n]) cn rfl ?_) | refine o1 ?_ | refine o2 ?_ | refine k1 ?_ | refine k2 ?_ | refine k3 ?_ | refine k4 ?_ | refine k6 ?_ | refine And.intro ?_ ?_ | refine o3 ?_ | refine o4 ?_ | (intro h; first | exact Bool.noConfusion h | exact nz _ h | exact nl h | (simp at h; done) | (simp at h; first | (exfalso; omega) | skip) | skip) | (refine (?_ : srcLen _ = rowsLen _); rfl) | exact (by kernel_rfl : drawOk _ _ = true) | refine eqv_wrap (by omega) (by omega) ?_ | (refine (?_ : _ ≤ 140737488355328); simp [rowsLen] <;> omega) | (refine (?_ : _ ≤ 9223372036854775807); simp [rowsLen] <;> omega) | (refine (?_ : _ = rowsLen _); simp [rowsLen] <;> omega) | fail)
                      exact ⟨(j - 1, kc, b0 :: (tb ++ [cn])), ⟨by show j - 1 + List.length _ = _; simp; try omega, hkc, all_app (l := b0 :: tb) t3 hcn⟩, (by show j - 1 < j; omega), back [0, 1, 2, 3, 4, 7] rfl rfl (by repeat' (first | exact trivial | exact rfl | refine And.intro ?_ ?_)) ⟨slot_eq rfl (congrArg (vint .i64) (by show _ = ((j - 1 : Nat) : Int); omega)), (by repeat' (first | exact trivial | exact rfl | refine And.intro ?_ ?_))⟩⟩
                · refine ⟨?_⟩
                  rintro ⟨k, tb⟩ ⟨f1, f2, f3⟩
                  dsimp only at f1 f2 f3
                  dsimp only [slP, obP, zeroM, mb, ob5, pb4, nilA, List.map, List.length_cons, List.length_nil, List.length_map]
                  repeat' (first | (refine app_consm (f := Pair.row) (Pair.mk i kk u tb) rfl ?_) | refine o1 ?_ | refine o2 ?_ | refine k2 ?_ | refine And.intro ?_ ?_ | (refine (?_ : srcLen _ = rowsLen _); rfl) | refine eqv_wrap (by omega) (by omega) ?_ | (refine (?_ : _ ≤ 140737488355328); simp [rowsLen] <;> omega) | (refine (?_ : _ ≤ 9223372036854775807); simp [rowsLen] <;> omega) | (refine (?_ : _ = rowsLen _); simp [rowsLen] <;> omega) | fail)
                  exact ⟨(kk + 1, k, p0 :: (prs ++ [Pair.mk i kk u tb])), ⟨⟨by show i < kk + 1; omega, by show kk + 1 ≤ _; omega⟩, f1, j3.app (pair_made hla hlb j0 hu1 f2 f3)⟩, (by show _ - (kk + 1) < _; omega), back [0, 1, 2, 6] rfl rfl (by repeat' (first | exact trivial | exact rfl | refine And.intro ?_ ?_)) (by repeat' (first | exact trivial | exact rfl | refine And.intro ?_ ?_))⟩
                · exact ⟨(kk + 1, kq, p0 :: prs), ⟨⟨by show i < kk + 1; omega, by show kk + 1 ≤ _; omega⟩, hkq, j3.skip⟩, (by show _ - (kk + 1) < _; omega), back [0, 1, 2, 3] rfl rfl (by repeat' (first | exact trivial | exact rfl | refine And.intro ?_ ?_)) (by repeat' (first | exact trivial | exact rfl | refine And.intro ?_ ?_))⟩
              · repeat' (first | refine o1 ?_ | refine o2 ?_ | refine k1 ?_ | refine k2 ?_ | refine k3 ?_ | refine k8 ?_ | refine And.intro ?_ ?_ | (intro h; first | exact Bool.noConfusion h | exact nz _ h | exact nl h | (simp at h; done) | (simp at h; first | (exfalso; omega) | skip) | skip) | refine eqv_len_map ?_ | refine eqv_wrap (by omega) (by omega) ?_ | fail)
                exact ⟨(i + 1, k, p0 :: prs), ⟨by show i + 1 ≤ _; omega, j2, j3.toI (by omega)⟩, (by show _ - (i + 1) < _; omega), back [0, 1, 2, 3] rfl rfl (by repeat' (first | exact trivial | exact rfl | refine And.intro ?_ ?_)) (by repeat' (first | exact trivial | exact rfl | refine And.intro ?_ ?_))⟩
          · dsimp only [slP, obP, zeroM, mb, ob5, pb4, nilA, List.map, List.length_cons, List.length_nil, List.length_map]
            repeat' (first | refine o1 ?_ | refine o2 ?_ | refine k1 ?_ | refine k2 ?_ | refine k3 ?_ | refine k4 ?_ | refine k6 ?_ | refine And.intro ?_ ?_ | (intro h; first | exact Bool.noConfusion h | exact nz _ h | exact nl h | (simp at h; done) | (simp at h; first | (exfalso; omega) | skip) | skip) | refine eqv_len_map ?_ | refine eqv_wrap (by omega) (by omega) ?_ | fail)
            refine loop_in (fun x : Nat × Nat × List Pair => [(16, vint .i64 x.1)]) (fun x => [dice t x.2.1, zeroM, mb (.pv (.sl 1 (cls.map optsRow))) (slP 3 4 (List.map Pair.row (x.2.2))) nilA r, obP 72 4 (List.map Pair.row (x.2.2))]) (fun x => (i < x.1 ∧ x.1 ≤ cls.length) ∧ x.2.1 ≤ t.length ∧ PrQ cls r x.2.2 u i x.1) (fun x => cls.length - x.1) (i + 1, k, p0 :: prs) ⟨⟨by dsimp only; omega, by dsimp only; omega⟩, i2, i3.toK⟩ ⟨?_, ?_⟩
            · exact back [0, 1, 2, 3] rfl rfl (by repeat' (first | exact trivial | exact rfl | refine And.intro ?_ ?_)) (by repeat' (first | exact trivial | exact rfl | refine And.intro ?_ ?_))
            rintro ⟨kk, k, prs⟩ ⟨⟨j0, j1⟩, j2, j3⟩
            dsimp only at j0 j1 j2 j3
            have jl := j3.len
            rcases prs with _ | ⟨p0, prs⟩
            · simp only [List.length_cons, List.length_nil] at jl
              dsimp only [slP, obP, zeroM, mb, ob5, pb4, nilA, List.map, List.length_cons, List.length_nil, List.length_map]
              rcases Nat.lt_or_ge kk cls.length with hkk | hkk
              · obtain ⟨la, hla⟩ := getE hi1
                obtain ⟨lb, hlb⟩ := getE hkk
                have hq1 := hcls la (List.mem_of_getElem? hla)
                have hq2 := hcls lb (List.mem_of_getElem? hlb)
                have hab : la.length * lb.length ≤ 16 := Nat.mul_le_mul hq1.2.1 hq2.2.1
                have hcast : ((la.length * lb.length : Nat) : Int) = (la.length : Int) * lb.length := by simp
                have hab1 : (la.length : Int) * lb.length ≤ 16 := by omega
                have hab0 : (0 : Int) ≤ (la.length : Int) * lb.length := by omega
                repeat' (first | (refine idx_sl (k := i) (at_map hla) (by omega) ?_) | (refine idx_sl (k := kk) (at_map hlb) (by omega) ?_) | (refine join_in (a := .seq (.region 29 _ _) _) (fun _ => []) (fun x : Nat × List Int => [dice t x.1, zeroM, mb (.pv (.sl 1 (cls.map optsRow))) (slP 3 4 (List.map Pair.row ([]))) nilA r, obP 72 4 (List.map Pair.row ([])), pb4 i kk u (.pv (encInts x.2))]) (fun x => x.1 ≤ t.length ∧ x.2.length = la.length * lb.length ∧ ∀ y ∈ x.2, y = 0 ∨ priceP y) ?_) | refine o1 ?_ | refine o2 ?_ | refine k1 ?_ | refine k2 ?_ | refine k3 ?_ | refine k4 ?_ | refine k6 ?_ | refine And.intro ?_ ?_ | refine o3 ?_ | refine o4 ?_ | (intro h; first | exact Bool.noConfusion h | exact nz _ h | exact nl h | (simp at h; done) | (simp at h; first | (exfalso; omega) | skip) | skip) | exact (by kernel_rfl : drawOk _ _ = true) | refine eqv_len_map ?_ | refine eqv_wrap (by omega) (by omega) ?_ | (change vcFun _ _ _ _ _; refine call_one2 0 rfl (by assumption) (by assumption) (by omega) (by omega) ?_; intro bq kq hkq) | fail)
                · refine loop_in (fun x : Nat × Nat × List Int => [(18, vint .i64 x.1)]) (fun x => [dice t x.2.1, zeroM, mb (.pv (.sl 1 (cls.map optsRow))) (slP 3 4 (List.map Pair.row ([]))) nilA r, obP 72 4 (List.map Pair.row ([])), pb4 i kk u (slP 5 1 (List.map (fun n => [ei n]) (x.2.2))), obP 3 1 (List.map (fun n => [ei n]) (x.2.2))]) (fun x => x.1 + x.2.2.length = la.length * lb.length ∧ x.2.1 ≤ t.length ∧ ∀ y ∈ x.2.2, y = 0 ∨ priceP y) (fun x => x.1) (la.length * lb.length, kq, []) ⟨by simp, hkq, fun y hy => absurd hy List.not_mem_nil⟩ ⟨?_, ?_⟩
                  · exact back [0, 1, 2, 3, 4, 5] rfl rfl (by repeat' (first | exact trivial | exact rfl | refine And.intro ?_ ?_)) ⟨slot_eq rfl (congrArg (vint .i64) hcast.symm), (by repeat' (first | exact trivial | exact rfl | refine And.intro ?_ ?_))⟩
                  rintro ⟨j, k, tb⟩ ⟨t1, t2, t3⟩
                  dsimp only at t1 t2 t3
                  rcases tb with _ | ⟨b0, tb⟩
                  · simp only [List.length_cons, List.length_nil] at t1
                    dsimp only [slP, obP, zeroM, mb, ob5, pb4, nilA, List.map, List.length_cons, List.length_nil, List.length_map]
                    rcases Nat.eq_zero_or_pos j with rfl | hj
                    · repeat' (first | refine o1 ?_ | refine o2 ?_ | refine k1 ?_ | refine k2 ?_ | refine k3 ?_ | refine k8 ?_ | refine And.intro ?_ ?_ | (intro h; first | exact Bool.noConfusion h | exact nz _ h | exact nl h | (simp at h; done) | (simp at h; first | (exfalso; omega) | skip) | skip) | fail)
                      exact ⟨(k, []), ⟨t2, by simp; omega, t3⟩, Ghost.trans (Ghost.shut (i := 4) (c := 3) (x := .pv (.val (.slice none 0 0))) rfl rfl rfl (by repeat' (first | trivial)) (show ¬ (4 ∈ ([] : List Nat)) by decide) (ALe.pv PLe.nil)) (back [0, 1, 2, 3, 4] rfl rfl (by repeat' (first | exact trivial | exact rfl | refine And.intro ?_ ?_)) (by repeat' (first | exact trivial | exact rfl | refine And.intro ?_ ?_)))⟩
                    · repeat' (first | ((change vcFunD _ _ _ _ _; refine callD_cost 0 rfl (by assumption) (by assumption) ?_; intro cn kc hcn hkc)) | refine o1 ?_ | refine o2 ?_ | refine k1 ?_ | refine k2 ?_ | refine k3 ?_ | refine k4 ?_ | refine k6 ?_ | refine And.intro ?_ ?_ | refine o3 ?_ | refine o4 ?_ | (intro h; first | exact Bool.noConfusion h | exact nz _ h | exact nl h | (simp at h; done) | (simp at h; first | (exfalso; omega) | skip) | skip) | (refine (?_ : srcLen _ = rowsLen _); rfl) | exact Nat.le_of_ble_eq_true rfl | exact (by kernel_rfl : drawOk _ _ = true) | refine eqv_wrap (by omega) (by omega) ?_ | refine eqv_to _ (app_first rfl) (eqv_to 1 rfl ?_) | fail)
                      exact ⟨(j - 1, kc, [cn]), ⟨by show j - 1 + List.length _ = _; simp; try omega, hkc, all_app (l := []) t3 hcn⟩, (by show j - 1 < j; omega), back [0, 1, 2, 3, 4, 7] rfl rfl (by repeat' (first | exact trivial | exact rfl | refine And.intro ?_ ?_)) ⟨slot_eq rfl (congrArg (vint .i64) (by show _ = ((j - 1 : Nat) : Int); omega)), (by repeat' (first | exact trivial | exact rfl | refine And.intro ?_ ?_))⟩⟩
                  · simp only [List.length_cons, List.length_nil] at t1
                    dsimp only [slP, obP, zeroM, mb, ob5, pb4, nilA, List.map, List.length_cons, List.length_nil, List.length_map]
                    rcases Nat.eq_zero_or_pos j with rfl | hj
                    · repeat' (first | refine o1 ?_ | refine o2 ?_ | refine k1 ?_ | refine k2 ?_ | refine k3 ?_ | refine k8 ?_ | refine And.intro ?_ ?_ | (intro h; first | exact Bool.noConfusion h | exact nz _ h | exact nl h | (simp at h; done) | (simp at h; first | (exfalso; omega) | skip) | skip) | fail)
                      exact ⟨(k, b0 :: tb), ⟨t2, by simp only [List.length_cons]; omega, t3⟩, Ghost.trans (Ghost.shut (i := 4) (c := 3) (x := .ms 5 1 0 ((List.map (fun n => [ei n]) tb).length + 1)) rfl rfl rfl (by repeat' (first | (show 0 + _ ≤ List.length _; simp))) (show ¬ (4 ∈ ([5] : List Nat)) by decide) (ALe.pv (whole_le (f := fun n => [ei n]) (l := b0 :: tb) (by simp)))) (back [0, 1, 2, 3, 4] rfl rfl (by repeat' (first | exact trivial | exact rfl | refine And.intro ?_ ?_)) (by repeat' (first | exact trivial | exact rfl | refine And.intro ?_ ?_)))⟩
                    · repeat' (first | ((change vcFunD _ _ _ _ _; refine callD_cost 0 rfl (by assumption) (by assumption) ?_; intro cn kc hcn hkc)) | (refine app_consm (f := fun n => [ei n]) cn rfl ?_) | refine o1 ?_ | refine o2 ?_ | refine k1 ?_ | refine k2 ?_ | refine k3 ?_ | refine k4 ?_ | refine k6 ?_ | refine And.intro ?_ ?_ | refine o3 ?_ | refine o4 ?_ | (intro h; first | exact Bool.noConfusion h | exact nz _ h | exact nl h | (simp at h; done) | (simp at h; first | (exfalso; omega) | skip) | skip) | (refine (?_ : srcLen _ = rowsLen _); rfl) | exact (by kernel_rfl : drawOk _ _ = true) | refine eqv_wrap (by omega) (by omega) ?_ | (refine (?_ : _ ≤ 140737488355328); simp [rowsLen] <;> omega) | (refine (?_ : _ ≤ 9223372036854775807); simp [rowsLen] <;> omega) | (refine (?_ : _ = rowsLen _); simp [rowsLen] <;> omega) | fail)
                      exact ⟨(j - 1, kc, b0 :: (tb ++ [cn])), ⟨by show j - 1 + List.length _ = _; simp; try omega, hkc, all_app (l := b0 :: tb) t3 hcn⟩, (by show j - 1 < j; omega), back [0, 1, 2, 3, 4, 7] rfl rfl (by repeat' (first | exact trivial | exact rfl | refine And.intro ?_ ?_)) ⟨slot_eq rfl (congrArg (vint .i64) (by show _ = ((j - 1 : Nat) : Int); omega)), (by repeat' (first | exact trivial | exact rfl | refine And.intro ?_ ?_))⟩⟩
                · refine ⟨?_⟩
                  rintro ⟨k, tb⟩ ⟨f1, f2, f3⟩
                  dsimp only at f1 f2 f3
                  dsimp only [slP, obP, zeroM, mb, ob5, pb4, nilA, List.map, List.length_cons, List.length_nil, List.length_map]
                  repeat' (first | refine o1 ?_ | refine o2 ?_ | refine k2 ?_ | refine And.intro ?_ ?_ | (intro h; first | exact Bool.noConfusion h | exact nz _ h | exact nl h | (simp at h; done) | (simp at h; first | (exfalso; omega) | skip) | skip) | (refine (?_ : srcLen _ = rowsLen _); rfl) | exact Nat.le_of_ble_eq_true rfl | refine eqv_wrap (by omega) (by omega) ?_ | refine eqv_to _ (app_first rfl) (eqv_to 1 rfl ?_) | fail)
                  exact ⟨(kk + 1, k, [Pair.mk i kk u tb]), ⟨⟨by show i < kk + 1; omega, by show kk + 1 ≤ _; omega⟩, f1, j3.app (pair_made hla hlb j0 hu1 f2 f3)⟩, (by show _ - (kk + 1) < _; omega), back [0, 1, 2, 6] rfl rfl (by repeat' (first | exact trivial | exact rfl | refine And.intro ?_ ?_)) (by repeat' (first | exact trivial | exact rfl | refine And.intro ?_ ?_))⟩
                · exact ⟨(kk + 1, kq, []), ⟨⟨by show i < kk + 1; omega, by show kk + 1 ≤ _; omega⟩, hkq, j3.skip⟩, (by show _ - (kk + 1) < _; omega), back [0, 1, 2, 3] rfl rfl (by repeat' (first | exact trivial | exact rfl | refine And.intro ?_ ?_)) (by repeat' (first | exact trivial | exact rfl | refine And.intro ?_ ?_))⟩
              · repeat' (first | refine o1 ?_ | refine o2 ?_ | refine k1 ?_ | refine k2 ?_ | refine k3 ?_ | refine k8 ?_ | refine And.intro ?_ ?_ | (intro h; first | exact Bool.noConfusion h | exact nz _ h | exact nl h | (simp at h; done) | (simp at h; first | (exfalso; omega) | skip) | skip) | refine eqv_len_map ?_ | refine eqv_wrap (by omega) (by omega) ?_ | fail)
                exact ⟨(i + 1, k, []), ⟨by show i + 1 ≤ _; omega, j2, j3.toI (by omega)⟩, (by show _ - (i + 1) < _; omega), back [0, 1, 2, 3] rfl rfl (by repeat' (first | exact trivial | exact rfl | refine And.intro ?_ ?_)) (by repeat' (first | exact trivial | exact rfl | refine And.intro ?_ ?_))⟩
            · simp only [List.length_cons, List.length_nil] at jl
              dsimp only [slP, obP, zeroM, mb, ob5, pb4, nilA, List.map, List.length_cons, List.length_nil, List.length_map]
              rcases Nat.lt_or_ge kk cls.length with hkk | hkk
              · obtain ⟨la, hla⟩ := getE hi1
                obtain ⟨lb, hlb⟩ := getE hkk
                have hq1 := hcls la (List.mem_of_getElem? hla)
                have hq2 := hcls lb (List.mem_of_getElem? hlb)
                have hab : la.length * lb.length ≤ 16 := Nat.mul_le_mul hq1.2.1 hq2.2.1
                have hcast : ((la.length * lb.length : Nat) : Int) = (la.length : Int) * lb.length := by simp
                have hab1 : (la.length : Int) * lb.length ≤ 16 := by omega
                have hab0 : (0 : Int) ≤ (la.length : Int) * lb.length := by omega
                repeat' (first | (refine idx_sl (k := i) (at_map hla) (by omega) ?_) | (refine idx_sl (k := kk) (at_map hlb) (by omega) ?_) | (refine join_in (a := .seq (.region 29 _ _) _) (fun _ => []) (fun x : Nat × List Int => [dice t x.1, zeroM, mb (.pv (.sl 1 (cls.map optsRow))) (slP 3 4 (List.map Pair.row (p0 :: prs))) nilA r, obP 72 4 (List.map Pair.row (p0 :: prs)), pb4 i kk u (.pv (encInts x.2))]) (fun x => x.1 ≤ t.length ∧ x.2.length = la.length * lb.length ∧ ∀ y ∈ x.2, y = 0 ∨ priceP y) ?_) | refine o1 ?_ | refine o2 ?_ | refine k1 ?_ | refine k2 ?_ | refine k3 ?_ | refine k4 ?_ | refine k6 ?_ | refine And.intro ?_ ?_ | refine o3 ?_ | refine o4 ?_ | (intro h; first | exact Bool.noConfusion h | exact nz _ h | exact nl h | (simp at h; done) | (simp at h; first | (exfalso; omega) | skip) | skip) | exact (by kernel_rfl : drawOk _ _ = true) | refine eqv_len_map ?_ | refine eqv_wrap (by omega) (by omega) ?_ | (change vcFun _ _ _ _ _; refine call_one2 0 rfl (by assumption) (by assumption) (by omega) (by omega) ?_; intro bq kq hkq) | fail)
                · refine loop_in (fun x : Nat × Nat × List Int => [(18, vint .i64 x.1)]) (fun x => [dice t x.2.1, zeroM, mb (.pv (.sl 1 (cls.map optsRow))) (slP 3 4 (List.map Pair.row (p0 :: prs))) nilA r, obP 72 4 (List.map Pair.row (p0 :: prs)), pb4 i kk u (slP 5 1 (List.map (fun n => [ei n]) (x.2.2))), obP 3 1 (List.map (fun n => [ei n]) (x.2.2))]) (fun x => x.1 + x.2.2.length = la.length * lb.length ∧ x.2.1 ≤ t.length ∧ ∀ y ∈ x.2.2, y = 0 ∨ priceP y) (fun x => x.1) (la.length * lb.length, kq, []) ⟨by simp, hkq, fun y hy => absurd hy List.not_mem_nil⟩ ⟨?_, ?_⟩
                  · exact back [0, 1, 2, 3, 4, 5] rfl rfl (by repeat' (first | exact trivial | exact rfl | refine And.intro ?_ ?_)) ⟨slot_eq rfl (congrArg (vint .i64) hcast.symm), (by repeat' (first | exact trivial | exact rfl | refine And.intro ?_ ?_))⟩
                  rintro ⟨j, k, tb⟩ ⟨t1, t2, t3⟩
                  dsimp only at t1 t2 t3
                  rcases tb with _ | ⟨b0, tb⟩
                  · simp only [List.length_cons, List.length_nil] at t1
                    dsimp only [slP, obP, zeroM, mb, ob5, pb4, nilA, List.map, List.length_cons, List.length_nil, List.length_map]
                    rcases Nat.eq_zero_or_pos j with rfl | hj
                    · repeat' (first | refine o1 ?_ | refine o2 ?_ | refine k1 ?_ | refine k2 ?_ | refine k3 ?_ | refine k8 ?_ | refine And.intro ?_ ?_ | (intro h; first | exact Bool.noConfusion h | exact nz _ h | exact nl h | (simp at h; done) | (simp at h; first | (exfalso; omega) | skip) | skip) | fail)
                      exact ⟨(k, []), ⟨t2, by simp; omega, t3⟩, Ghost.trans (Ghost.shut (i := 4) (c := 3) (x := .pv (.val (.slice none 0 0))) rfl rfl rfl (by repeat' (first | trivial)) (show ¬ (4 ∈ ([] : List Nat)) by decide) (ALe.pv PLe.nil)) (back [0, 1, 2, 3, 4] rfl rfl (by repeat' (first | exact trivial | exact rfl | refine And.intro ?_ ?_)) (by repeat' (first | exact trivial | exact rfl | refine And.intro ?_ ?_)))⟩
                    · repeat' (first | ((change vcFunD _ _ _ _ _; refine callD_cost 0 rfl (by assumption) (by assumption) ?_; intro cn kc hcn hkc)) | refine o1 ?_ | refine o2 ?_ | refine k1 ?_ | refine k2 ?_ | refine k3 ?_ | refine k4 ?_ | refine k6 ?_ | refine And.intro ?_ ?_ | refine o3 ?_ | refine o4 ?_ | (intro h; first | exact Bool.noConfusion h | exact nz _ h | exact nl h | (simp at h; done) | (simp at h; first | (exfalso; omega) | skip) | skip) | (refine (?_ : srcLen _ = rowsLen _); rfl) | exact Nat.le_of_ble_eq_true rfl | exact (by kernel_rfl : drawOk _ _ = true) | refine eqv_wrap (by omega) (by omega) ?_ | refine eqv_to _ (app_first rfl) (eqv_to 1 rfl ?_) | fail)
                      exact ⟨(j - 1, kc, [cn]), ⟨by show j - 1 + List.length _ = _; simp; try omega, hkc, all_app (l := []) t3 hcn⟩, (by show j - 1 < j; omega), back [0, 1, 2, 3, 4, 7] rfl rfl (by repeat' (first | exact trivial | exact rfl | refine And.intro ?_ ?_)) ⟨slot_eq rfl (congrArg (vint .i64) (by show _ = ((j - 1 : Nat) : Int); omega)), (by repeat' (first | exact trivial | exact rfl | refine And.intro ?_ ?_))⟩⟩
                  · simp only [List.length_cons, List.length_nil] at t1
                    dsimp only [slP, obP, zeroM, mb, ob5, pb4, nilA, List.map, List.length_cons, List.length_nil, List.length_map]
                    rcases Nat.eq_zero_or_pos j with rfl | hj
                    · repeat' (first | refine o1 ?_ | refine o2 ?_ | refine k1 ?_ | refine k2 ?_ | refine k3 ?_ | refine k8 ?_ | refine And.intro ?_ ?_ | (intro h; first | exact Bool.noConfusion h | exact nz _ h | exact nl h | (simp at h; done) | (simp at h; first | (exfalso; omega) | skip) | skip) | fail)
                      exact ⟨(k, b0 :: tb), ⟨t2, by simp only [List.length_cons]; omega, t3⟩, Ghost.trans (Ghost.shut (i := 4) (c := 3) (x := .ms 5 1 0 ((List.map (fun n => [ei n]) tb).length + 1)) rfl rfl rfl (by repeat' (first | (show 0 + _ ≤ List.length _; simp))) (show ¬ (4 ∈ ([5] : List Nat)) by decide) (ALe.pv (whole_le (f := fun n => [ei n]) (l := b0 :: tb) (by simp)))) (back [0, 1, 2, 3, 4] rfl rfl (by repeat' (first | exact trivial | exact rfl | refine And.intro ?_ ?_)) (by repeat' (first | exact trivial | exact rfl | refine And.intro ?_ ?_)))⟩
                    · repeat' (first | ((change vcFunD _ _ _ _ _; refine callD_cost 0 rfl (by assumption) (by assumption) ?_; intro cn kc hcn hkc)) | (refine app_consm (f := fun n => [ei n]) cn rfl ?_) | refine o1 ?_ | refine o2 ?_ | refine k1 ?_ | refine k2 ?_ | refine k3 ?_ | refine k4 ?_ | refine k6 ?_ | refine And.intro ?_ ?_ | refine o3 ?_ | refine o4 ?_ | (intro h; first | exact Bool.noConfusion h | exact nz _ h | exact nl h | (simp at h; done) | (simp at h; first | (exfalso; omega) | skip) | skip) | (refine (?_ : srcLen _ = rowsLen _); rfl) | exact (by kernel_rfl : drawOk _ _ = true) | refine eqv_wrap (by omega) (by omega) ?_ | (refine (?_ : _ ≤ 140737488355328); simp [rowsLen] <;> omega) | (refine (?_ : _ ≤ 9223372036854775807); simp [rowsLen] <;> omega) | (refine (?_ : _ = rowsLen _); simp [rowsLen] <;> omega) | fail)
                      exact ⟨(j - 1, kc, b0 :: (tb ++ [cn])), ⟨by show j - 1 + List.length _ = _; simp; try omega, hkc, all_app (l := b0 :: tb) t3 hcn⟩, (by show j - 1 < j; omega), back [0, 1, 2, 3, 4, 7] rfl rfl (by repeat' (first | exact trivial | exact rfl | refine And.intro ?_ ?_)) ⟨slot_eq rfl (congrArg (vint .i64) (by show _ = ((j - 1 : Nat) : Int); omega)), (by repeat' (first | exact trivial | exact rfl | refine And.intro ?_ ?_))⟩⟩
                · refine ⟨?_⟩
                  rintro ⟨k, tb⟩ ⟨f1, f2, f3⟩
                  dsimp only at f1 f2 f3
                  dsimp only [slP, obP, zeroM, mb, ob5, pb4, nilA, List.map, List.length_cons, List.length_nil, List.length_map]
                  repeat' (first | (refine app_consm (f := Pair.row) (Pair.mk i kk u tb) rfl ?_) | refine o1 ?_ | refine o2 ?_ | refine k2 ?_ | refine And.intro ?_ ?_ | (refine (?_ : srcLen _ = rowsLen _); rfl) | refine eqv_wrap (by omega) (by omega) ?_ | (refine (?_ : _ ≤ 140737488355328); simp [rowsLen] <;> omega) | (refine (?_ : _ ≤ 9223372036854775807); simp [rowsLen] <;> omega) | (refine (?_ : _ = rowsLen _); simp [rowsLen] <;> omega) | fail)
                  exact ⟨(kk + 1, k, p0 :: (prs ++ [Pair.mk i kk u tb])), ⟨⟨by show i < kk + 1; omega, by show kk + 1 ≤ _; omega⟩, f1, j3.app (pair_made hla hlb j0 hu1 f2 f3)⟩, (by show _ - (kk + 1) < _; omega), back [0, 1, 2, 6] rfl rfl (by repeat' (first | exact trivial | exact rfl | refine And.intro ?_ ?_)) (by repeat' (first | exact trivial | exact rfl | refine And.intro ?_ ?_))⟩
                · exact ⟨(kk + 1, kq, p0 :: prs), ⟨⟨by show i < kk + 1; omega, by show kk + 1 ≤ _; omega⟩, hkq, j3.skip⟩, (by show _ - (kk + 1) < _; omega), back [0, 1, 2, 3] rfl rfl (by repeat' (first | exact trivial | exact rfl | refine And.intro ?_ ?_)) (by repeat' (first | exact trivial | exact rfl | refine And.intro ?_ ?_))⟩
              · repeat' (first | refine o1 ?_ | refine o2 ?_ | refine k1 ?_ | refine k2 ?_ | refine k3 ?_ | refine k8 ?_ | refine And.intro ?_ ?_ | (intro h; first | exact Bool.noConfusion h | exact nz _ h | exact nl h | (simp at h; done) | (simp at h; first | (exfalso; omega) | skip) | skip) | refine eqv_len_map ?_ | refine eqv_wrap (by omega) (by omega) ?_ | fail)
                exact ⟨(i + 1, k, p0 :: prs), ⟨by show i + 1 ≤ _; omega, j2, j3.toI (by omega)⟩, (by show _ - (i + 1) < _; omega), back [0, 1, 2, 3] rfl rfl (by repeat' (first | exact trivial | exact rfl | refine And.intro ?_ ?_)) (by repeat' (first | exact trivial | exact rfl | refine And.intro ?_ ?_))⟩
        · rcases prs with _ | ⟨p0, prs⟩
          · dsimp only [slP, obP, zeroM, mb, ob5, pb4, nilA, List.map, List.length_cons, List.length_nil, List.length_map]
            repeat' (first | refine o1 ?_ | refine o2 ?_ | refine k1 ?_ | refine k2 ?_ | refine k3 ?_ | refine k8 ?_ | refine And.intro ?_ ?_ | (intro h; first | exact Bool.noConfusion h | exact nz _ h | exact nl h | (simp at h; done) | (simp at h; first | (exfalso; omega) | skip) | skip) | refine eqv_len_map ?_ | refine eqv_wrap (by omega) (by omega) ?_ | fail)
            exact ⟨(u + 1, k, []), ⟨by show u + 1 ≤ _; omega, i2, i3.toU (by omega)⟩, (by show _ - (u + 1) < _; omega), back [0, 1, 2, 3] rfl rfl (by repeat' (first | exact trivial | exact rfl | refine And.intro ?_ ?_)) (by repeat' (first | exact trivial | exact rfl | refine And.intro ?_ ?_))⟩
          · dsimp only [slP, obP, zeroM, mb, ob5, pb4, nilA, List.map, List.length_cons, List.length_nil, List.length_map]
            repeat' (first | refine o1 ?_ | refine o2 ?_ | refine k1 ?_ | refine k2 ?_ | refine k3 ?_ | refine k8 ?_ | refine And.intro ?_ ?_ | (intro h; first | exact Bool.noConfusion h | exact nz _ h | exact nl h | (simp at h; done) | (simp at h; first | (exfalso; omega) | skip) | skip) | refine eqv_len_map ?_ | refine eqv_wrap (by omega) (by omega) ?_ | fail)
            exact ⟨(u + 1, k, p0 :: prs), ⟨by show u + 1 ≤ _; omega, i2, i3.toU (by omega)⟩, (by show _ - (u + 1) < _; omega), back [0, 1, 2, 3] rfl rfl (by repeat' (first | exact trivial | exact rfl | refine And.intro ?_ ?_)) (by repeat' (first | exact trivial | exact rfl | refine And.intro ?_ ?_))⟩
      · obtain rfl : u = r.toNat := by omega
        repeat' (first | refine o1 ?_ | refine o2 ?_ | refine k1 ?_ | refine k2 ?_ | refine k3 ?_ | refine k8 ?_ | refine And.intro ?_ ?_ | (intro h; first | exact Bool.noConfusion h | exact nz _ h | exact nl h | (simp at h; done) | (simp at h; first | (exfalso; omega) | skip) | skip) | fail)
        exact ⟨(k, []), ⟨u2, u3.at_, by simp⟩, Ghost.trans (Ghost.shut (i := 2) (c := 1) (x := .pv (.val (.slice none 0 0))) rfl rfl rfl (by repeat' (first | trivial)) (show ¬ (2 ∈ ([] : List Nat)) by decide) (ALe.pv PLe.nil)) (back [0, 1, 2] rfl rfl (by repeat' (first | exact trivial | exact rfl | refine And.intro ?_ ?_)) (by repeat' (first | exact trivial | exact rfl | refine And.intro ?_ ?_)))⟩
    · simp only [List.length_cons, List.length_nil] at ul
      dsimp only [slP, obP, zeroM, mb, ob5, pb4, nilA, List.map, List.length_cons, List.length_nil, List.length_map]
      rcases Nat.lt_or_ge u r.toNat with hu | hu
      · have hu1 : (u : Int) < r := by omega
        repeat' (first | refine o1 ?_ | refine o2 ?_ | refine k1 ?_ | refine k2 ?_ | refine k3 ?_ | refine k4 ?_ | refine k6 ?_ | refine And.intro ?_ ?_ | (intro h; first | exact Bool.noConfusion h | exact nz _ h | exact nl h | (simp at h; done) | (simp at h; first | (exfalso; omega) | skip) | skip) | fail)
        refine loop_in (fun x : Nat × Nat × List Pair => [(15, vint .i64 x.1)]) (fun x => [dice t x.2.1, zeroM, mb (.pv (.sl 1 (cls.map optsRow))) (slP 3 4 (List.map Pair.row (x.2.2))) nilA r, obP 72 4 (List.map Pair.row (x.2.2))]) (fun x => x.1 ≤ cls.length ∧ x.2.1 ≤ t.length ∧ PrQ cls r x.2.2 u x.1 0) (fun x => cls.length - x.1) (0, k, p0 :: prs) ⟨Nat.zero_le _, u2, u3⟩ ⟨?_, ?_⟩
        · exact back [0, 1, 2, 3] rfl rfl (by repeat' (first | exact trivial | exact rfl | refine And.intro ?_ ?_)) (by repeat' (first | exact trivial | exact rfl | refine And.intro ?_ ?_))
        rintro ⟨i, k, prs⟩ ⟨i1, i2, i3⟩
        dsimp only at i1 i2 i3
        have il := i3.len
        rcases Nat.lt_or_ge i cls.length with hi1 | hi1
        · rcases prs with _ | ⟨p0, prs⟩
          · dsimp only [slP, obP, zeroM, mb, ob5, pb4, nilA, List.map, List.length_cons, List.length_nil, List.length_map]
            repeat' (first | refine o1 ?_ | refine o2 ?_ | refine k1 ?_ | refine k2 ?_ | refine k3 ?_ | refine k4 ?_ | refine k6 ?_ | refine And.intro ?_ ?_ | (intro h; first | exact Bool.noConfusion h | exact nz _ h | exact nl h | (simp at h; done) | (simp at h; first | (exfalso; omega) | skip) | skip) | refine eqv_len_map ?_ | refine eqv_wrap (by omega) (by omega) ?_ | fail)
            refine loop_in (fun x : Nat × Nat × List Pair => [(16, vint .i64 x.1)]) (fun x => [dice t x.2.1, zeroM, mb (.pv (.sl 1 (cls.map optsRow))) (slP 3 4 (List.map Pair.row (x.2.2))) nilA r, obP 72 4 (List.map Pair.row (x.2.2))]) (fun x => (i < x.1 ∧ x.1 ≤ cls.length) ∧ x.2.1 ≤ t.length ∧ PrQ cls r x.2.2 u i x.1) (fun x => cls.length - x.1) (i + 1, k, []) ⟨⟨by dsimp only; omega, by dsimp only; omega⟩, i2, i3.toK⟩ ⟨?_, ?_⟩
            · exact back [0, 1, 2, 3] rfl rfl (by repeat' (first | exact trivial | exact rfl | refine And.intro ?_ ?_)) (by repeat' (first | exact trivial | exact rfl | refine And.intro ?_ ?_))
            rintro ⟨kk, k, prs⟩ ⟨⟨j0, j1⟩, j2, j3⟩
            dsimp only at j0 j1 j2 j3
            have jl := j3.len
            rcases prs with _ | ⟨p0, prs⟩
            · simp only [List.length_cons, List.length_nil] at jl
              dsimp only [slP, obP, zeroM, mb, ob5, pb4, nilA, List.map, List.length_cons, List.length_nil, List.length_map]
              rcases Nat.lt_or_ge kk cls.length with hkk | hkk
              · obtain ⟨la, hla⟩ := getE hi1
                obtain ⟨lb, hlb⟩ := getE hkk
                have hq1 := hcls la (List.mem_of_getElem? hla)
                have hq2 := hcls lb (List.mem_of_getElem? hlb)
                have hab : la.length * lb.length ≤ 16 := Nat.mul_le_mul hq1.2.1 hq2.2.1
                have hcast : ((la.length * lb.length : Nat) : Int) = (la.length : Int) * lb.length := by simp
                have hab1 : (la.length : Int) * lb.length ≤ 16 := by omega
                have hab0 : (0 : Int) ≤ (la.length : Int) * lb.length := by omega
                repeat' (first | (refine idx_sl (k := i) (at_map hla) (by omega) ?_) | (refine idx_sl (k := kk) (at_map hlb) (by omega) ?_) | (refine join_in (a := .seq (.region 29 _ _) _) (fun _ => []) (fun x : Nat × List Int => [dice t x.1, zeroM, mb (.pv (.sl 1 (cls.map optsRow))) (slP 3 4 (List.map Pair.row ([]))) nilA r, obP 72 4 (List.map Pair.row ([])), pb4 i kk u (.pv (encInts x.2))]) (fun x => x.1 ≤ t.length ∧ x.2.length = la.length * lb.length ∧ ∀ y ∈ x.2, y = 0 ∨ priceP y) ?_) | refine o1 ?_ | refine o2 ?_ | refine k1 ?_ | refine k2 ?_ | refine k3 ?_ | refine k4 ?_ | refine k6 ?_ | refine And.intro ?_ ?_ | refine o3 ?_ | refine o4 ?_ | (intro h; first | exact Bool.noConfusion h | exact nz _ h | exact nl h | (simp at h; done) | (simp at h; first | (exfalso; omega) | skip) | skip) | exact (by kernel_rfl : drawOk _ _ = true) | refine eqv_len_map ?_ | refine eqv_wrap (by omega) (by omega) ?_ | (change vcFun _ _ _ _ _; refine call_one2 0 rfl (by assumption) (by assumption) (by omega) (by omega) ?_; intro bq kq hkq) | fail)
                · refine loop_in (fun x : Nat × Nat × List Int => [(18, vint .i64 x.1)]) (fun x => [dice t x.2.1, zeroM, mb (.pv (.sl 1 (cls.map optsRow))) (slP 3 4 (List.map Pair.row ([]))) nilA r, obP 72 4 (List.map Pair.row ([])), pb4 i kk u (slP 5 1 (List.map (fun n => [ei n]) (x.2.2))), obP 3 1 (List.map (fun n => [ei n]) (x.2.2))]) (fun x => x.1 + x.2.2.length = la.length * lb.length ∧ x.2.1 ≤ t.length ∧ ∀ y ∈ x.2.2, y = 0 ∨ priceP y) (fun x => x.1) (la.length * lb.length, kq, []) ⟨by simp, hkq, fun y hy => absurd hy List.not_mem_nil⟩ ⟨?_, ?_⟩
                  · exact back [0, 1, 2, 3, 4, 5] rfl rfl (by repeat' (first | exact trivial | exact rfl | refine And.intro ?_ ?_)) ⟨slot_eq rfl (congrArg (vint .i64) hcast.symm), (by repeat' (first | exact trivial | exact rfl | refine And.intro ?_ ?_))⟩
                  rintro ⟨j, k, tb⟩ ⟨t1, t2, t3⟩
                  dsimp only at t1 t2 t3
                  rcases tb with _ | ⟨b0, tb⟩
                  · simp only [List.length_cons, List.length_nil] at t1
                    dsimp only [slP, obP, zeroM, mb, ob5, pb4, nilA, List.map, List.length_cons, List.length_nil, List.length_map]
                    rcases Nat.eq_zero_or_pos j with rfl | hj
                    · repeat' (first | refine o1 ?_ | refine o2 ?_ | refine k1 ?_ | refine k2 ?_ | refine k3 ?_ | refine k8 ?_ | refine And.intro ?_ ?_ | (intro h; first | exact Bool.noConfusion h | exact nz _ h | exact nl h | (simp at h; done) | (simp at h; first | (exfalso; omega) | skip) | skip) | fail)
                      exact ⟨(k, []), ⟨t2, by simp; omega, t3⟩, Ghost.trans (Ghost.shut (i := 4) (c := 3) (x := .pv (.val (.slice none 0 0))) rfl rfl rfl (by repeat' (first | trivial)) (show ¬ (4 ∈ ([] : List Nat)) by decide) (ALe.pv PLe.nil)) (back [0, 1, 2, 3, 4] rfl rfl (by repeat' (first | exact trivial | exact rfl | refine And.intro ?_ ?_)) (by repeat' (first | exact trivial | exact rfl | refine And.intro ?_ ?_)))⟩
                    · repeat' (first | ((change vcFunD _ _ _ _ _; refine callD_cost 0 rfl (by assumption) (by assumption) ?_; intro cn kc hcn hkc)) | refine o1 ?_ | refine o2 ?_ | refine k1 ?_ | refine k2 ?_ | refine k3 ?_ | refine k4 ?_ | refine k6 ?_ | refine And.intro ?_ ?_ | refine o3 ?_ | refine o4 ?_ | (intro h; first | exact Bool.noConfusion h | exact nz _ h | exact nl h | (simp at h; done) | (simp at h; first | (exfalso; omega) | skip) | skip) | (refine (?_ : srcLen _ = rowsLen _); rfl) | exact Nat.le_of_ble_eq_true rfl | exact (by kernel_rfl : drawOk _ _ = true) | refine eqv_wrap (by omega) (by omega) ?_ | refine eqv_to _ (app_first rfl) (eqv_to 1 rfl ?_) | fail)
                      exact ⟨(j - 1, kc, [cn]), ⟨by show j - 1 + List.length _ = _; simp; try omega, hkc, all_app (l := []) t3 hcn⟩, (by show j - 1 < j; omega), back [0, 1, 2, 3, 4, 7] rfl rfl (by repeat' (first | exact trivial | exact rfl | refine And.intro ?_ ?_)) ⟨slot_eq rfl (congrArg (vint .i64) (by show _ = ((j - 1 : Nat) : Int); omega)), (by repeat' (first | exact trivial | exact rfl | refine And.intro ?_ ?_))⟩⟩
                  · simp only [List.length_cons, List.length_nil] at t1
                    dsimp only [slP, obP, zeroM, mb, ob5, pb4, nilA, List.map, List.length_cons, List.length_nil, List.length_map]
                    rcases Nat.eq_zero_or_pos j with rfl | hj
                    · repeat' (first | refine o1 ?_ | refine o2 ?_ | refine k1 ?_ | refine k2 ?_ | refine k3 ?_ | refine k8 ?_ | refine And.intro ?_ ?_ | (intro h; first | exact Bool.noConfusion h | exact nz _ h | exact nl h | (simp at h; done) | (simp at h; first | (exfalso; omega) | skip) | skip) | fail)
                      exact ⟨(k, b0 :: tb), ⟨t2, by simp only [List.length_cons]; omega, t3⟩, Ghost.trans (Ghost.shut (i := 4) (c := 3) (x := .ms 5 1 0 ((List.map (fun n => [ei n]) tb).length + 1)) rfl rfl rfl (by repeat' (first | (show 0 + _ ≤ List.length _; simp))) (show ¬ (4 ∈ ([5] : List Nat)) by decide) (ALe.pv (whole_le (f := fun n => [ei n]) (l := b0 :: tb) (by simp)))) (back [0, 1, 2, 3, 4] rfl rfl (by repeat' (first | exact trivial | exact rfl | refine And.intro ?_ ?_)) (by repeat' (first | exact trivial | exact rfl | refine And.intro ?_ ?_)))⟩
                    · repeat' (first | ((change vcFunD _ _ _ _ _; refine callD_cost 0 rfl (by assumption) (by assumption) ?_; intro cn kc hcn hkc)) | (refine app_consm (f := fun n => [ei n]) cn rfl ?_) | refine o1 ?_ | refine o2 ?_ | refine k1 ?_ | refine k2 ?_ | refine k3 ?_ | refine k4 ?_ | refine k6 ?_ | refine And.intro ?_ ?_ | refine o3 ?_ | refine o4 ?_ | (intro h; first | exact Bool.noConfusion h | exact nz _ h | exact nl h | (simp at h; done) | (simp at h; first | (exfalso; omega) | skip) | skip) | (refine (?_ : srcLen _ = rowsLen _); rfl) | exact (by kernel_rfl : drawOk _ _ = true) | refine eqv_wrap (by omega) (by omega) ?_ | (refine (?_ : _ ≤ 140737488355328); simp [rowsLen] <;> omega) | (refine (?_ : _ ≤ 9223372036854775807); simp [rowsLen] <;> omega) | (refine (?_ : _ = rowsLen _); simp [rowsLen] <;> omega) | fail)
                      exact ⟨(j - 1, kc, b0 :: (tb ++ [cn])), ⟨by show j - 1 + List.length _ = _; simp; try omega, hkc, all_app (l := b0 :: tb) t3 hcn⟩, (by show j - 1 < j; omega), back [0, 1, 2, 3, 4, 7] rfl rfl (by repeat' (first | exact trivial | exact rfl | refine And.intro ?_ ?_)) ⟨slot_eq rfl (congrArg (vint .i64) (by show _ = ((j - 1 : Nat) : Int); omega)), (by repeat' (first | exact trivial | exact rfl | refine And.intro ?_ ?_))⟩⟩
                · refine ⟨?_⟩
                  rintro ⟨k, tb⟩ ⟨f1, f2, f3⟩
                  dsimp only at f1 f2 f3
                  dsimp only [slP, obP, zeroM, mb, ob5, pb4, nilA, List.map, List.length_cons, List.length_nil, List.length_map]
                  repeat' (first | refine o1 ?_ | refine o2 ?_ | refine k2 ?_ | refine And.intro ?_ ?_ | (intro h; first | exact Bool.noConfusion h | exact nz _ h | exact nl h | (simp at h; done) | (simp at h; first | (exfalso; omega) | skip) | skip) | (refine (?_ : srcLen _ = rowsLen _); rfl) | exact Nat.le_of_ble_eq_true rfl | refine eqv_wrap (by omega) (by omega) ?_ | refine eqv_to _ (app_first rfl) (eqv_to 1 rfl ?_) | fail)
                  exact ⟨(kk + 1, k, [Pair.mk i kk u tb]), ⟨⟨by show i < kk + 1; omega, by show kk + 1 ≤ _; omega⟩, f1, j3.app (pair_made hla hlb j0 hu1 f2 f3)⟩, (by show _ - (kk + 1) < _; omega), back [0, 1, 2, 6] rfl rfl (by repeat' (first | exact trivial | exact rfl | refine And.intro ?_ ?_)) (by repeat' (first | exact trivial | exact rfl | refine And.intro ?_ ?_))⟩
                · exact ⟨(kk + 1, kq, []), ⟨⟨by show i < kk + 1; omega, by show kk + 1 ≤ _; omega⟩, hkq, j3.skip⟩, (by show _ - (kk + 1) < _; omega), back [0, 1, 2, 3] rfl rfl (by repeat' (first | exact trivial | exact rfl | refine And.intro ?_ ?_)) (by repeat' (first | exact trivial | exact rfl | refine And.intro ?_ ?_))⟩
              · repeat' (first | refine o1 ?_ | refine o2 ?_ | refine k1 ?_ | refine k2 ?_ | refine k3 ?_ | refine k8 ?_ | refine And.intro ?_ ?_ | (intro h; first | exact Bool.noConfusion h | exact nz _ h | exact nl h | (simp at h; done) | (simp at h; first | (exfalso; omega) | skip) | skip) | refine eqv_len_map ?_ | refine eqv_wrap (by omega) (by omega) ?_ | fail)
                exact ⟨(i + 1, k, []), ⟨by show i + 1 ≤ _; omega, j2, j3.toI (by omega)⟩, (by show _ - (i + 1) < _; omega), back [0, 1, 2, 3] rfl rfl (by repeat' (first | exact trivial | exact rfl | refine And.intro ?_ ?_)) (by repeat' (first | exact trivial | exact rfl | refine And.intro ?_ ?_))⟩
            · simp only [List.length_cons, List.length_nil] at jl
              dsimp only [slP, obP, zeroM, mb, ob5, pb4, nilA, List.map, List.length_cons, List.length_nil, List.length_map]
              rcases Nat.lt_or_ge kk cls.length with hkk | hkk
              · obtain ⟨la, hla⟩ := getE hi1
                obtain ⟨lb, hlb⟩ := getE hkk
                have hq1 := hcls la (List.mem_of_getElem? hla)
                have hq2 := hcls lb (List.mem_of_getElem? hlb)
                have hab : la.length * lb.length ≤ 16 := Nat.mul_le_mul hq1.2.1 hq2.2.1
                have hcast : ((la.length * lb.length : Nat) : Int) = (la.length : Int) * lb.length := by simp
                have hab1 : (la.length : Int) * lb.length ≤ 16 := by omega
                have hab0 : (0 : Int) ≤ (la.length : Int) * lb.length := by omega
                repeat' (first | (refine idx_sl (k := i) (at_map hla) (by omega) ?_) | (refine idx_sl (k := kk) (at_map hlb) (by omega) ?_) | (refine join_in (a := .seq (.region 29 _ _) _) (fun _ => []) (fun x : Nat × List Int => [dice t x.1, zeroM, mb (.pv (.sl 1 (cls.map optsRow))) (slP 3 4 (List.map Pair.row (p0 :: prs))) nilA r, obP 72 4 (List.map Pair.row (p0 :: prs)), pb4 i kk u (.pv (encInts x.2))]) (fun x => x.1 ≤ t.length ∧ x.2.length = la.length * lb.length ∧ ∀ y ∈ x.2, y = 0 ∨ priceP y) ?_) | refine o1 ?_ | refine o2 ?_ | refine k1 ?_ | refine k2 ?_ | refine k3 ?_ | refine k4 ?_ | refine k6 ?_ | refine And.intro ?_ ?_ | refine o3 ?_ | refine o4 ?_ | (intro h; first | exact Bool.noConfusion h | exact nz _ h | exact nl h | (simp at h; done) | (simp at h; first | (exfalso; omega) | skip) | skip) | exact (by kernel_rfl : drawOk _ _ = true) | refine eqv_len_map ?_ | refine eqv_wrap (by omega) (by omega) ?_ | (change vcFun _ _ _ _ _; refine call_one2 0 rfl (by assumption) (by assumption) (by omega) (by omega) ?_; intro bq kq hkq) | fail)
                · refine loop_in (fun x : Nat × Nat × List Int => [(18, vint .i64 x.1)]) (fun x => [dice t x.2.1, zeroM, mb (.pv (.sl 1 (cls.map optsRow))) (slP 3 4 (List.map Pair.row (p0 :: prs))) nilA r, obP 72 4 (List.map Pair.row (p0 :: prs)), pb4 i kk u (slP 5 1 (List.map (fun n => [ei n]) (x.2.2))), obP 3 1 (List.map (fun n => [ei n]) (x.2.2))]) (fun x => x.1 + x.2.2.length = la.length * lb.length ∧ x.2.1 ≤ t.length ∧ ∀ y ∈ x.2.2, y = 0 ∨ priceP y) (fun x => x.1) (la.length * lb.length, kq, []) ⟨by simp, hkq, fun y hy => absurd hy List.not_mem_nil⟩ ⟨?_, ?_⟩
                  · exact back [0, 1, 2, 3, 4, 5] rfl rfl (by repeat' (first | exact trivial | exact rfl | refine And.intro ?_ ?_)) ⟨slot_eq rfl (congrArg (vint .i64) hcast.symm), (by repeat' (first | exact trivial | exact rfl | refine And.intro ?_ ?_))⟩
                  rintro ⟨j, k, tb⟩ ⟨t1, t2, t3⟩
                  dsimp only at t1 t2 t3
                  rcases tb with _ | ⟨b0, tb⟩
                  · simp only [List.length_cons, List.length_nil] at t1
                    dsimp only [slP, obP, zeroM, mb, ob5, pb4, nilA, List.map, List.length_cons, List.length_nil, List.length_map]
                    rcases Nat.eq_zero_or_pos j with rfl | hj
                    · repeat' (first | refine o1 ?_ | refine o2 ?_ | refine k1 ?_ | refine k2 ?_ | refine k3 ?_ | refine k8 ?_ | refine And.intro ?_ ?_ | (intro h; first | exact Bool.noConfusion h | exact nz _ h | exact nl h | (simp at h; done) | (simp at h; first | (exfalso; omega) | skip) | skip) | fail)
                      exact ⟨(k, []), ⟨t2, by simp; omega, t3⟩, Ghost.trans (Ghost.shut (i := 4) (c := 3) (x := .pv (.val (.slice none 0 0))) rfl rfl rfl (by repeat' (first | trivial)) (show ¬ (4 ∈ ([] : List Nat)) by decide) (ALe.pv PLe.nil)) (back [0, 1, 2, 3, 4] rfl rfl (by repeat' (first | exact trivial | exact rfl | refine And.intro ?_ ?_)) (by repeat' (first | exact trivial | exact rfl | refine And.intro ?_ ?_)))⟩
                    · repeat' (first | ((change vcFunD _ _ _ _ _; refine callD_cost 0 rfl (by assumption) (by assumption) ?_; intro cn kc hcn hkc)) | refine o1 ?_ | refine o2 ?_ | refine k1 ?_ | refine k2 ?_ | refine k3 ?_ | refine k4 ?_ | refine k6 ?_ | refine And.intro ?_ ?_ | refine o3 ?_ | refine o4 ?_ | (intro h; first | exact Bool.noConfusion h | exact nz _ h | exact nl h | (simp at h; done) | (simp at h; first | (exfalso; omega) | skip) | skip) | (refine (?_ : srcLen _ = rowsLen _); rfl) | exact Nat.le_of_ble_eq_true rfl | exact (by kernel_rfl : drawOk _ _ = true) | refine eqv_wrap (by omega) (by omega) ?_ | refine eqv_to _ (app_first rfl) (eqv_to 1 rfl ?_) | fail)
                      exact ⟨(j - 1, kc, [cn]), ⟨by show j - 1 + List.length _ = _; simp; try omega, hkc, all_app (l := []) t3 hcn⟩, (by show j - 1 < j; omega), back [0, 1, 2, 3, 4, 7] rfl rfl (by repeat' (first | exact trivial | exact rfl | refine And.intro ?_ ?_)) ⟨slot_eq rfl (congrArg (vint .i64) (by show _ = ((j - 1 : Nat) : Int); omega)), (by repeat' (first | exact trivial | exact rfl | refine And.intro ?_ ?_))⟩⟩
                  · simp only [List.length_cons, List.length_nil] at t1
                    dsimp only [slP, obP, zeroM, mb, ob5, pb4, nilA, List.map, List.length_cons, List.length_nil, List.length_map]
                    rcases Nat.eq_zero_or_pos j with rfl | hj
                    · repeat' (first | refine o1 ?_ | refine o2 ?_ | refine k1 ?_ | refine k2 ?_ | refine k3 ?_ | refine k8 ?_ | refine And.intro ?_ ?_ | (intro h; first | exact Bool.noConfusion h | exact nz _ h | exact nl h | (simp at h; done) | (simp at h; first | (exfalso; omega) | skip) | skip) | fail)
                      exact ⟨(k, b0 :: tb), ⟨t2, by simp only [List.length_cons]; omega, t3⟩, Ghost.trans (Ghost.shut (i := 4) (c := 3) (x := .ms 5 1 0 ((List.map (fun n => [ei n]) tb).length + 1)) rfl rfl rfl (by repeat' (first | (show 0 + _ ≤ List.length _; simp))) (show ¬ (4 ∈ ([5] : List Nat)) by decide) (ALe.pv (whole_le (f := fun n => [ei n]) (l := b0 :: tb) (by simp)))) (back [0, 1, 2, 3, 4] rfl rfl (by repeat' (first | exact trivial | exact rfl | refine And.intro ?_ ?_)) (by repeat' (first | exact trivial | exact rfl | refine And.intro ?_ ?_)))⟩
                    · repeat' (first | ((change vcFunD _ _ _ _ _; refine callD_cost 0 rfl (by assumption) (by assumption) ?_; intro cn kc hcn hkc)) | (refine app_consm (f := fun n => [ei n]) cn rfl ?_) | refine o1 ?_ | refine o2 ?_ | refine k1 ?_ | refine k2 ?_ | refine k3 ?_ | refine k4 ?_ | refine k6 ?_ | refine And.intro ?_ ?_ | refine o3 ?_ | refine o4 ?_ | (intro h; first | exact Bool.noConfusion h | exact nz _ h | exact nl h | (simp at h; done) | (simp at h; first | (exfalso; omega) | skip) | skip) | (refine (?_ : srcLen _ = rowsLen _); rfl) | exact (by kernel_rfl : drawOk _ _ = true) | refine eqv_wrap (by omega) (by omega) ?_ | (refine (?_ : _ ≤ 140737488355328); simp [rowsLen] <;> omega) | (refine (?_ : _ ≤ 9223372036854775807); simp [rowsLen] <;> omega) | (refine (?_ : _ = rowsLen _); simp [rowsLen] <;> omega) | fail)
                      exact ⟨(j - 1, kc, b0 :: (tb ++ [cn])), ⟨by show j - 1 + List.length _ = _; simp; try omega, hkc, all_app (l := b0 :: tb) t3 hcn⟩, (by show j - 1 < j; omega), back [0, 1, 2, 3, 4, 7] rfl rfl (by repeat' (first | exact trivial | exact rfl | refine And.intro ?_ ?_)) ⟨slot_eq rfl (congrArg (vint .i64) (by show _ = ((j - 1 : Nat) : Int); omega)), (by repeat' (first | exact trivial | exact rfl | refine And.intro ?_ ?_))⟩⟩
                · refine ⟨?_⟩
                  rintro ⟨k, tb⟩ ⟨f1, f2, f3⟩
                  dsimp only at f1 f2 f3
                  dsimp only [slP, obP, zeroM, mb, ob5, pb4, nilA, List.map, List.length_cons, List.length_nil, List.length_map]
                  repeat' (first | (refine app_consm (f := Pair.row) (Pair.mk i kk u tb) rfl ?_) | refine o1 ?_ | refine o2 ?_ | refine k2 ?_ | refine And.intro ?_ ?_ | (refine (?_ : srcLen _ = rowsLen _); rfl) | refine eqv_wrap (by omega) (by omega) ?_ | (refine (?_ : _ ≤ 140737488355328); simp [rowsLen] <;> omega) | (refine (?_ : _ ≤ 9223372036854775807); simp [rowsLen] <;> omega) | (refine (?_ : _ = rowsLen _); simp [rowsLen] <;> omega) | fail)
                  exact ⟨(kk + 1, k, p0 :: (prs ++ [Pair.mk i kk u tb])), ⟨⟨by show i < kk + 1; omega, by show kk + 1 ≤ _; omega⟩, f1, j3.app (pair_made hla hlb j0 hu1 f2 f3)⟩, (by show _ - (kk + 1) < _; omega), back [0, 1, 2, 6] rfl rfl (by repeat' (first | exact trivial | exact rfl | refine And.intro ?_ ?_)) (by repeat' (first | exact trivial | exact rfl | refine And.intro ?_ ?_))⟩
                · exact ⟨(kk + 1, kq, p0 :: prs), ⟨⟨by show i < kk + 1; omega, by show kk + 1 ≤ _; omega⟩, hkq, j3.skip⟩, (by show _ - (kk + 1) < _; omega), back [0, 1, 2, 3] rfl rfl (by repeat' (first | exact trivial | exact rfl | refine And.intro ?_ ?_)) (by repeat' (first | exact trivial | exact rfl | refine And.intro ?_ ?_))⟩
              · repeat' (first | refine o1 ?_ | refine o2 ?_ | refine k1 ?_ | refine k2 ?_ | refine k3 ?_ | refine k8 ?_ | refine And.intro ?_ ?_ | (intro h; first | exact Bool.noConfusion h | exact nz _ h | exact nl h | (simp at h; done) | (simp at h; first | (exfalso; omega) | skip) | skip) | refine eqv_len_map ?_ | refine eqv_wrap (by omega) (by omega) ?_ | fail)
                exact ⟨(i + 1, k, p0 :: prs), ⟨by show i + 1 ≤ _; omega, j2, j3.toI (by omega)⟩, (by show _ - (i + 1) < _; omega), back [0, 1, 2, 3] rfl rfl (by repeat' (first | exact trivial | exact rfl | refine And.intro ?_ ?_)) (by repeat' (first | exact trivial | exact rfl | refine And.intro ?_ ?_))⟩
          · dsimp only [slP, obP, zeroM, mb, ob5, pb4, nilA, List.map, List.length_cons, List.length_nil, List.length_map]
            repeat' (first | refine o1 ?_ | refine o2 ?_ | refine k1 ?_ | refine k2 ?_ | refine k3 ?_ | refine k4 ?_ | refine k6 ?_ | refine And.intro ?_ ?_ | (intro h; first | exact Bool.noConfusion h | exact nz _ h | exact nl h | (simp at h; done) | (simp at h; first | (exfalso; omega) | skip) | skip) | refine eqv_len_map ?_ | refine eqv_wrap (by omega) (by omega) ?_ | fail)
            refine loop_in (fun x : Nat × Nat × List Pair => [(16, vint .i64 x.1)]) (fun x => [dice t x.2.1, zeroM, mb (.pv (.sl 1 (cls.map optsRow))) (slP 3 4 (List.map Pair.row (x.2.2))) nilA r, obP 72 4 (List.map Pair.row (x.2.2))]) (fun x => (i < x.1 ∧ x.1 ≤ cls.length) ∧ x.2.1 ≤ t.length ∧ PrQ cls r x.2.2 u i x.1) (fun x => cls.length - x.1) (i + 1, k, p0 :: prs) ⟨⟨by dsimp only; omega, by dsimp only; omega⟩, i2, i3.toK⟩ ⟨?_, ?_⟩
            · exact back [0, 1, 2, 3] rfl rfl (by repeat' (first | exact trivial | exact rfl | refine And.intro ?_ ?_)) (by repeat' (first | exact trivial | exact rfl | refine And.intro ?_ ?_))
            rintro ⟨kk, k, prs⟩ ⟨⟨j0, j1⟩, j2, j3⟩
            dsimp only at j0 j1 j2 j3
            have jl := j3.len
            rcases prs with _ | ⟨p0, prs⟩
            · simp only [List.length_cons, List.length_nil] at jl
              dsimp only [slP, obP, zeroM, mb, ob5, pb4, nilA, List.map, List.length_cons, List.length_nil, List.length_map]
              rcases Nat.lt_or_ge kk cls.length with hkk | hkk
              · obtain ⟨la, hla⟩ := getE hi1
                obtain ⟨lb, hlb⟩ := getE hkk
                have hq1 := hcls la (List.mem_of_getElem? hla)
                have hq2 := hcls lb (List.mem_of_getElem? hlb)
                have hab : la.length * lb.length ≤ 16 := Nat.mul_le_mul hq1.2.1 hq2.2.1
                have hcast : ((la.length * lb.length : Nat) : Int) = (la.length : Int) * lb.length := by simp
                have hab1 : (la.length : Int) * lb.length ≤ 16 := by omega
                have hab0 : (0 : Int) ≤ (la.length : Int) * lb.length := by omega
                repeat' (first | (refine idx_sl (k := i) (at_map hla) (by omega) ?_) | (refine idx_sl (k := kk) (at_map hlb) (by omega) ?_) | (refine join_in (a := .seq (.region 29 _ _) _) (fun _ => []) (fun x : Nat × List Int => [dice t x.1, zeroM, mb (.pv (.sl 1 (cls.map optsRow))) (slP 3 4 (List.map Pair.row ([]))) nilA r, obP 72 4 (List.map Pair.row ([])), pb4 i kk u (.pv (encInts x.2))]) (fun x => x.1 ≤ t.length ∧ x.2.length = la.length * lb.length ∧ ∀ y ∈ x.2, y = 0 ∨ priceP y) ?_) | refine o1 ?_ | refine o2 ?_ | refine k1 ?_ | refine k2 ?_ | refine k3 ?_ | refine k4 ?_ | refine k6 ?_ | refine And.intro ?_ ?_ | refine o3 ?_ | refine o4 ?_ | (intro h; first | exact Bool.noConfusion h | exact nz _ h | exact nl h | (simp at h; done) | (simp at h; first | (exfalso; omega) | skip) | skip) | exact (by kernel_rfl : drawOk _ _ = true) | refine eqv_len_map ?_ | refine eqv_wrap (by omega) (by omega) ?_ | (change vcFun _ _ _ _ _; refine call_one2 0 rfl (by assumption) (by assumption) (by omega) (by omega) ?_; intro bq kq hkq) | fail)
                · refine loop_in (fun x : Nat × Nat × List Int => [(18, vint .i64 x.1)]) (fun x => [dice t x.2.1, zeroM, mb (.pv (.sl 1 (cls.map optsRow))) (slP 3 4 (List.map Pair.row ([]))) nilA r, obP 72 4 (List.map Pair.row ([])), pb4 i kk u (slP 5 1 (List.map (fun n => [ei n]) (x.2.2))), obP 3 1 (List.map (fun n => [ei n]) (x.2.2))]) (fun x => x.1 + x.2.2.length = la.length * lb.length ∧ x.2.1 ≤ t.length ∧ ∀ y ∈ x.2.2, y = 0 ∨ priceP y) (fun x => x.1) (la.length * lb.length, kq, []) ⟨by simp, hkq, fun y hy => absurd hy List.not_mem_nil⟩ ⟨?_, ?_⟩
                  · exact back [0, 1, 2, 3, 4, 5] rfl rfl (by repeat' (first | exact trivial | exact rfl | refine And.intro ?_ ?_)) ⟨slot_eq rfl (congrArg (vint .i64) hcast.symm), (by repeat' (first | exact trivial | exact rfl | refine And.intro ?_ ?_))⟩
                  rintro ⟨j, k, tb⟩ ⟨t1, t2, t3⟩
                  dsimp only at t1 t2 t3
                  rcases tb with _ | ⟨b0, tb⟩
                  · simp only [List.length_cons, List.length_nil] at t1
                    dsimp only [slP, obP, zeroM, mb, ob5, pb4, nilA, List.map, List.length_cons, List.length_nil, List.length_map]
                    rcases Nat.eq_zero_or_pos j with rfl | hj
                    · repeat' (first | refine o1 ?_ | refine o2 ?_ | refine k1 ?_ | refine k2 ?_ | refine k3 ?_ | refine k8 ?_ | refine And.intro ?_ ?_ | (intro h; first | exact Bool.noConfusion h | exact nz _ h | exact nl h | (simp at h; done) | (simp at h; first | (exfalso; omega) | skip) | skip) | fail)
                      exact ⟨(k, []), ⟨t2, by simp; omega, t3⟩, Ghost.trans (Ghost.shut (i := 4) (c := 3) (x := .pv (.val (.slice none 0 0))) rfl rfl rfl (by repeat' (first | trivial)) (show ¬ (4 ∈ ([] : List Nat)) by decide) (ALe.pv PLe.nil)) (back [0, 1, 2, 3, 4] rfl rfl (by repeat' (first | exact trivial | exact rfl | refine And.intro ?_ ?_)) (by repeat' (first | exact trivial | exact rfl | refine And.intro ?_ ?_)))⟩
                    · repeat' (first | ((change vcFunD _ _ _ _ _; refine callD_cost 0 rfl (by assumption) (by assumption) ?_; intro cn kc hcn hkc)) | refine o1 ?_ | refine o2 ?_ | refine k1 ?_ | refine k2 ?_ | refine k3 ?_ | refine k4 ?_ | refine k6 ?_ | refine And.intro ?_ ?_ | refine o3 ?_ | refine o4 ?_ | (intro h; first | exact Bool.noConfusion h | exact nz _ h | exact nl h | (simp at h; done) | (simp at h; first | (exfalso; omega) | skip) | skip) | (refine (?_ : srcLen _ = rowsLen _); rfl) | exact Nat.le_of_ble_eq_true rfl | exact (by kernel_rfl : drawOk _ _ = true) | refine eqv_wrap (by omega) (by omega) ?_ | refine eqv_to _ (app_first rfl) (eqv_to 1 rfl ?_) | fail)
                      exact ⟨(j - 1, kc, [cn]), ⟨by show j - 1 + List.length _ = _; simp; try omega, hkc, all_app (l := []) t3 hcn⟩, (by show j - 1 < j; omega), back [0, 1, 2, 3, 4, 7] rfl rfl (by repeat' (first | exact trivial | exact rfl | refine And.intro ?_ ?_)) ⟨slot_eq rfl (congrArg (vint .i64) (by show _ = ((j - 1 : Nat) : Int); omega)), (by repeat' (first | exact trivial | exact rfl | refine And.intro ?_ ?_))⟩⟩
                  · simp only [List.length_cons, List.length_nil] at t1
                    dsimp only [slP, obP, zeroM, mb, ob5, pb4, nilA, List.map, List.length_cons, List.length_nil, List.length_map]
                    rcases Nat.eq_zero_or_pos j with rfl | hj
                    · repeat' (first | refine o1 ?_ | refine o2 ?_ | refine k1 ?_ | refine k2 ?_ | refine k3 ?_ | refine k8 ?_ | refine And.intro ?_ ?_ | (intro h; first | exact Bool.noConfusion h | exact nz _ h | exact nl h | (simp at h; done) | (simp at h; first | (exfalso; omega) | skip) | skip) | fail)
                      exact ⟨(k, b0 :: tb), ⟨t2, by simp only [List.length_cons]; omega, t3⟩, Ghost.trans (Ghost.shut (i := 4) (c := 3) (x := .ms 5 1 0 ((List.map (fun n => [ei n]) tb).length + 1)) rfl rfl rfl (by repeat' (first | (show 0 + _ ≤ List.length _; simp))) (show ¬ (4 ∈ ([5] : List Nat)) by decide) (ALe.pv (whole_le (f := fun n => [ei n]) (l := b0 :: tb) (by simp)))) (back [0, 1, 2, 3, 4] rfl rfl (by repeat' (first | exact trivial | exact rfl | refine And.intro ?_ ?_)) (by repeat' (first | exact trivial | exact rfl | refine And.intro ?_ ?_)))⟩
                    · repeat' (first | ((change vcFunD _ _ _ _ _; refine callD_cost 0 rfl (by assumption) (by assumption) ?_; intro cn kc hcn hkc)) | (refine app_consm (f := fun n => [ei n]) cn rfl ?_) | refine o1 ?_ | refine o2 ?_ | refine k1 ?_ | refine k2 ?_ | refine k3 ?_ | refine k4 ?_ | refine k6 ?_ | refine And.intro ?_ ?_ | refine o3 ?_ | refine o4 ?_ | (intro h; first | exact Bool.noConfusion h | exact nz _ h | exact nl h | (simp at h; done) | (simp at h; first | (exfalso; omega) | skip) | skip) | (refine (?_ : srcLen _ = rowsLen _); rfl) | exact (by kernel_rfl : drawOk _ _ = true) | refine eqv_wrap (by omega) (by omega) ?_ | (refine (?_ : _ ≤ 140737488355328); simp [rowsLen] <;> omega) | (refine (?_ : _ ≤ 9223372036854775807); simp [rowsLen] <;> omega) | (refine (?_ : _ = rowsLen _); simp [rowsLen] <;> omega) | fail)
                      exact ⟨(j - 1, kc, b0 :: (tb ++ [cn])), ⟨by show j - 1 + List.length _ = _; simp; try omega, hkc, all_app (l := b0 :: tb) t3 hcn⟩, (by show j - 1 < j; omega), back [0, 1, 2, 3, 4, 7] rfl rfl (by repeat' (first | exact trivial | exact rfl | refine And.intro ?_ ?_)) ⟨slot_eq rfl (congrArg (vint .i64) (by show _ = ((j - 1 : Nat) : Int); omega)), (by repeat' (first | exact trivial | exact rfl | refine And.intro ?_ ?_))⟩⟩
                · refine ⟨?_⟩
                  rintro ⟨k, tb⟩ ⟨f1, f2, f3⟩
                  dsimp only at f1 f2 f3
                  dsimp only [slP, obP, zeroM, mb, ob5, pb4, nilA, List.map, List.length_cons, List.length_nil, List.length_map]
                  repeat' (first | refine o1 ?_ | refine o2 ?_ | refine k2 ?_ | refine And.intro ?_ ?_ | (intro h; first | exact Bool.noConfusion h | exact nz _ h | exact nl h | (simp at h; done) | (simp at h; first | (exfalso; omega) | skip) | skip) | (refine (?_ : srcLen _ = rowsLen _); rfl) | exact Nat.le_of_ble_eq_true rfl | refine eqv_wrap (by omega) (by omega) ?_ | refine eqv_to _ (app_first rfl) (eqv_to 1 rfl ?_) | fail)
                  exact ⟨(kk + 1, k, [Pair.mk i kk u tb]), ⟨⟨by show i < kk + 1; omega, by show kk + 1 ≤ _; omega⟩, f1, j3.app (pair_made hla hlb j0 hu1 f2 f3)⟩, (by show _ - (kk + 1) < _; omega), back [0, 1, 2, 6] rfl rfl (by repeat' (first | exact trivial | exact rfl | refine And.intro ?_ ?_)) (by repeat' (first | exact trivial | exact rfl | refine And.intro ?_ ?_))⟩
                · exact ⟨(kk + 1, kq, []), ⟨⟨by show i < kk + 1; omega, by show kk + 1 ≤ _; omega⟩, hkq, j3.skip⟩, (by show _ - (kk + 1) < _; omega), back [0, 1, 2, 3] rfl rfl (by repeat' (first | exact trivial | exact rfl | refine And.intro ?_ ?_)) (by repeat' (first | exact trivial | exact rfl | refine And.intro ?_ ?_))⟩
              · repeat' (first | refine o1 ?_ | refine o2 ?_ | refine k1 ?_ | refine k2 ?_ | refine k3 ?_ | refine k8 ?_ | refine And.intro ?_ ?_ | (intro h; first | exact Bool.noConfusion h | exact nz _ h | exact nl h | (simp at h; done) | (simp at h; first | (exfalso; omega) | skip) | skip) | refine eqv_len_map ?_ | refine eqv_wrap (by omega) (by omega) ?_ | fail)
                exact ⟨(i + 1, k, []), ⟨by show i + 1 ≤ _; omega, j2, j3.toI (by omega)⟩, (by show _ - (i + 1) < _; omega), back [0, 1, 2, 3] rfl rfl (by repeat' (first | exact trivial | exact rfl | refine And.intro ?_ ?_)) (by repeat' (first | exact trivial | exact rfl | refine And.intro ?_ ?_))⟩
            · simp only [List.length_cons, List.length_nil] at jl
              dsimp only [slP, obP, zeroM, mb, ob5, pb4, nilA, List.map, List.length_cons, List.length_nil, List.length_map]
              rcases Nat.lt_or_ge kk cls.length with hkk | hkk
              · obtain ⟨la, hla⟩ := getE hi1
                obtain ⟨lb, hlb⟩ := getE hkk
                have hq1 := hcls la (List.mem_of_getElem? hla)
                have hq2 := hcls lb (List.mem_of_getElem? hlb)
                have hab : la.length * lb.length ≤ 16 := Nat.mul_le_mul hq1.2.1 hq2.2.1
                have hcast : ((la.length * lb.length : Nat) : Int) = (la.length : Int) * lb.length := by simp
                have hab1 : (la.length : Int) * lb.length ≤ 16 := by omega
                have hab0 : (0 : Int) ≤ (la.length : Int) * lb.length := by omega
                repeat' (first | (refine idx_sl (k := i) (at_map hla) (by omega) ?_) | (refine idx_sl (k := kk) (at_map hlb) (by omega) ?_) | (refine join_in (a := .seq (.region 29 _ _) _) (fun _ => []) (fun x : Nat × List Int => [dice t x.1, zeroM, mb (.pv (.sl 1 (cls.map optsRow))) (slP 3 4 (List.map Pair.row (p0 :: prs))) nilA r, obP 72 4 (List.map Pair.row (p0 :: prs)), pb4 i kk u (.pv (encInts x.2))]) (fun x => x.1 ≤ t.length ∧ x.2.length = la.length * lb.length ∧ ∀ y ∈ x.2, y = 0 ∨ priceP y) ?_) | refine o1 ?_ | refine o2 ?_ | refine k1 ?_ | refine k2 ?_ | refine k3 ?_ | refine k4 ?_ | refine k6 ?_ | refine And.intro ?_ ?_ | refine o3 ?_ | refine o4 ?_ | (intro h; first | exact Bool.noConfusion h | exact nz _ h | exact nl h | (simp at h; done) | (simp at h; first | (exfalso; omega) | skip) | skip) | exact (by kernel_rfl : drawOk _ _ = true) | refine eqv_len_map ?_ | refine eqv_wrap (by omega) (by omega) ?_ | (change vcFun _ _ _ _ _; refine call_one2 0 rfl (by assumption) (by assumption) (by omega) (by omega) ?_; intro bq kq hkq) | fail)
                · refine loop_in (fun x : Nat × Nat × List Int => [(18, vint .i64 x.1)]) (fun x => [dice t x.2.1, zeroM, mb (.pv (.sl 1 (cls.map optsRow))) (slP 3 4 (List.map Pair.row (p0 :: prs))) nilA r, obP 72 4 (List.map Pair.row (p0 :: prs)), pb4 i kk u (slP 5 1 (List.map (fun n => [ei n]) (x.2.2))), obP 3 1 (List.map (fun n => [ei n]) (x.2.2))]) (fun x => x.1 + x.2.2.length = la.length * lb.length ∧ x.2.1 ≤ t.length ∧ ∀ y ∈ x.2.2, y = 0 ∨ priceP y) (fun x => x.1) (la.length * lb.length, kq, []) ⟨by simp, hkq, fun y hy => absurd hy List.not_mem_nil⟩ ⟨?_, ?_⟩
                  · exact back [0, 1, 2, 3, 4, 5] rfl rfl (by repeat' (first | exact trivial | exact rfl | refine And.intro ?_ ?_)) ⟨slot_eq rfl (congrArg (vint .i64) hcast.symm), (by repeat' (first | exact trivial | exact rfl | refine And.intro ?_ ?_))⟩
                  rintro ⟨j, k, tb⟩ ⟨t1, t2, t3⟩
                  dsimp only at t1 t2 t3
                  rcases tb with _ | ⟨b0, tb⟩
                  · simp only [List.length_cons, List.length_nil] at t1
                    dsimp only [slP, obP, zeroM, mb, ob5, pb4, nilA, List.map, List.length_cons, List.length_nil, List.length_map]
                    rcases Nat.eq_zero_or_pos j with rfl | hj
                    · repeat' (first | refine o1 ?_ | refine o2 ?_ | refine k1 ?_ | refine k2 ?_ | refine k3 ?_ | refine k8 ?_ | refine And.intro ?_ ?_ | (intro h; first | exact Bool.noConfusion h | exact nz _ h | exact nl h | (simp at h; done) | (simp at h; first | (exfalso; omega) | skip) | skip) | fail)
                      exact ⟨(k, []), ⟨t2, by simp; omega, t3⟩, Ghost.trans (Ghost.shut (i := 4) (c := 3) (x := .pv (.val (.slice none 0 0))) rfl rfl rfl (by repeat' (first | trivial)) (show ¬ (4 ∈ ([] : List Nat)) by decide) (ALe.pv PLe.nil)) (back [0, 1, 2, 3, 4] rfl rfl (by repeat' (first | exact trivial | exact rfl | refine And.intro ?_ ?_)) (by repeat' (first | exact trivial | exact rfl | refine And.intro ?_ ?_)))⟩
                    · repeat' (first | ((change vcFunD _ _ _ _ _; refine callD_cost 0 rfl (by assumption) (by assumption) ?_; intro cn kc hcn hkc)) | refine o1 ?_ | refine o2 ?_ | refine k1 ?_ | refine k2 ?_ | refine k3 ?_ | refine k4 ?_ | refine k6 ?_ | refine And.intro ?_ ?_ | refine o3 ?_ | refine o4 ?_ | (intro h; first | exact Bool.noConfusion h | exact nz _ h | exact nl h | (simp at h; done) | (simp at h; first | (exfalso; omega) | skip) | skip) | (refine (?_ : srcLen _ = rowsLen _); rfl) | exact Nat.le_of_ble_eq_true rfl | exact (by kernel_rfl : drawOk _ _ = true) | refine eqv_wrap (by omega) (by omega) ?_ | refine eqv_to _ (app_first rfl) (eqv_to 1 rfl ?_) | fail)
                      exact ⟨(j - 1, kc, [cn]), ⟨by show j - 1 + List.length _ = _; simp; try omega, hkc, all_app (l := []) t3 hcn⟩, (by show j - 1 < j; omega), back [0, 1, 2, 3, 4, 7] rfl rfl (by repeat' (first | exact trivial | exact rfl | refine And.intro ?_ ?_)) ⟨slot_eq rfl (congrArg (vint .i64) (by show _ = ((j - 1 : Nat) : Int); omega)), (by repeat' (first | exact trivial | exact rfl | refine And.intro ?_ ?_))⟩⟩
                  · simp only [List.length_cons, List.length_nil] at t1
                    dsimp only [slP, obP, zeroM, mb, ob5, pb4, nilA, List.map, List.length_cons, List.length_nil, List.length_map]
                    rcases Nat.eq_zero_or_pos j with rfl | hj
                    · repeat' (first | refine o1 ?_ | refine o2 ?_ | refine k1 ?_ | refine k2 ?_ | refine k3 ?_ | refine k8 ?_ | refine And.intro ?_ ?_ | (intro h; first | exact Bool.noConfusion h | exact nz _ h | exact nl h | (simp at h; done) | (simp at h; first | (exfalso; omega) | skip) | skip) | fail)
                      exact ⟨(k, b0 :: tb), ⟨t2, by simp only [List.length_cons]; omega, t3⟩, Ghost.trans (Ghost.shut (i := 4) (c := 3) (x := .ms 5 1 0 ((List.map (fun n => [ei n]) tb).length + 1)) rfl rfl rfl (by repeat' (first | (show 0 + _ ≤ List.length _; simp))) (show ¬ (4 ∈ ([5] : List Nat)) by decide) (ALe.pv (whole_le (f := fun n => [ei n]) (l := b0 :: tb) (by simp)))) (back [0, 1, 2, 3, 4] rfl rfl (by repeat' (first | exact trivial | exact rfl | refine And.intro ?_ ?_)) (by repeat' (first | exact trivial | exact rfl | refine And.intro ?_ ?_)))⟩
                    · repeat' (first | ((change vcFunD _ _ _ _ _; refine callD_cost 0 rfl (by assumption) (by assumption) ?_; intro cn kc hcn hkc)) | (refine app_consm (f := fun n => [ei n]) cn rfl ?_) | refine o1 ?_ | refine o2 ?_ | refine k1 ?_ | refine k2 ?_ | refine k3 ?_ | refine k4 ?_ | refine k6 ?_ | refine And.intro ?_ ?_ | refine o3 ?_ | refine o4 ?_ | (intro h; first | exact Bool.noConfusion h | exact nz _ h | exact nl h | (simp at h; done) | (simp at h; first | (exfalso; omega) | skip) | skip) | (refine (?_ : srcLen _ = rowsLen _); rfl) | exact (by kernel_rfl : drawOk _ _ = true) | refine eqv_wrap (by omega) (by omega) ?_ | (refine (?_ : _ ≤ 140737488355328); simp [rowsLen] <;> omega) | (refine (?_ : _ ≤ 9223372036854775807); simp [rowsLen] <;> omega) | (refine (?_ : _ = rowsLen _); simp [rowsLen] <;> omega) | fail)
                      exact ⟨(j - 1, kc, b0 :: (tb ++ [cn])), ⟨by show j - 1 + List.length _ = _; simp; try omega, hkc, all_app (l := b0 :: tb) t3 hcn⟩, (by show j - 1 < j; omega), back [0, 1, 2, 3, 4, 7] rfl rfl (by repeat' (first | exact trivial | exact rfl | refine And.intro ?_ ?_)) ⟨slot_eq rfl (congrArg (vint .i64) (by show _ = ((j - 1 : Nat) : Int); omega)), (by repeat' (first | exact trivial | exact rfl | refine And.intro ?_ ?_))⟩⟩
                · refine ⟨?_⟩
                  rintro ⟨k, tb⟩ ⟨f1, f2, f3⟩
                  dsimp only at f1 f2 f3
                  dsimp only [slP, obP, zeroM, mb, ob5, pb4, nilA, List.map, List.length_cons, List.length_nil, List.length_map]
                  repeat' (first | (refine app_consm (f := Pair.row) (Pair.mk i kk u tb) rfl ?_) | refine o1 ?_ | refine o2 ?_ | refine k2 ?_ | refine And.intro ?_ ?_ | (refine (?_ : srcLen _ = rowsLen _); rfl) | refine eqv_wrap (by omega) (by omega) ?_ | (refine (?_ : _ ≤ 140737488355328); simp [rowsLen] <;> omega) | (refine (?_ : _ ≤ 9223372036854775807); simp [rowsLen] <;> omega) | (refine (?_ : _ = rowsLen _); simp [rowsLen] <;> omega) | fail)
                  exact ⟨(kk + 1, k, p0 :: (prs ++ [Pair.mk i kk u tb])), ⟨⟨by show i < kk + 1; omega, by show kk + 1 ≤ _; omega⟩, f1, j3.app (pair_made hla hlb j0 hu1 f2 f3)⟩, (by show _ - (kk + 1) < _; omega), back [0, 1, 2, 6] rfl rfl (by repeat' (first | exact trivial | exact rfl | refine And.intro ?_ ?_)) (by repeat' (first | exact trivial | exact rfl | refine And.intro ?_ ?_))⟩
                · exact ⟨(kk + 1, kq, p0 :: prs), ⟨⟨by show i < kk + 1; omega, by show kk + 1 ≤ _; omega⟩, hkq, j3.skip⟩, (by show _ - (kk + 1) < _; omega), back [0, 1, 2, 3] rfl rfl (by repeat' (first | exact trivial | exact rfl | refine And.intro ?_ ?_)) (by repeat' (first | exact trivial | exact rfl | refine And.intro ?_ ?_))⟩
              · repeat' (first | refine o1 ?_ | refine o2 ?_ | refine k1 ?_ | refine k2 ?_ | refine k3 ?_ | refine k8 ?_ | refine And.intro ?_ ?_ | (intro h; first | exact Bool.noConfusion h | exact nz _ h | exact nl h | (simp at h; done) | (simp at h; first | (exfalso; omega) | skip) | skip) | refine eqv_len_map ?_ | refine eqv_wrap (by omega) (by omega) ?_ | fail)
                exact ⟨(i + 1, k, p0 :: prs), ⟨by show i + 1 ≤ _; omega, j2, j3.toI (by omega)⟩, (by show _ - (i + 1) < _; omega), back [0, 1, 2, 3] rfl rfl (by repeat' (first | exact trivial | exact rfl | refine And.intro ?_ ?_)) (by repeat' (first | exact trivial | exact rfl | refine And.intro ?_ ?_))⟩
        · rcases prs with _ | ⟨p0, prs⟩
          · dsimp only [slP, obP, zeroM, mb, ob5, pb4, nilA, List.map, List.length_cons, List.length_nil, List.length_map]
            repeat' (first | refine o1 ?_ | refine o2 ?_ | refine k1 ?_ | refine k2 ?_ | refine k3 ?_ | refine k8 ?_ | refine And.intro ?_ ?_ | (intro h; first | exact Bool.noConfusion h | exact nz _ h | exact nl h | (simp at h; done) | (simp at h; first | (exfalso; omega) | skip) | skip) | refine eqv_len_map ?_ | refine eqv_wrap (by omega) (by omega) ?_ | fail)
            exact ⟨(u + 1, k, []), ⟨by show u + 1 ≤ _; omega, i2, i3.toU (by omega)⟩, (by show _ - (u + 1) < _; omega), back [0, 1, 2, 3] rfl rfl (by repeat' (first | exact trivial | exact rfl | refine And.intro ?_ ?_)) (by repeat' (first | exact trivial | exact rfl | refine And.intro ?_ ?_))⟩
          · dsimp only [slP, obP, zeroM, mb, ob5, pb4, nilA, List.map, List.length_cons, List.length_nil, List.length_map]
            repeat' (first | refine o1 ?_ | refine o2 ?_ | refine k1 ?_ | refine k2 ?_ | refine k3 ?_ | refine k8 ?_ | refine And.intro ?_ ?_ | (intro h; first | exact Bool.noConfusion h | exact nz _ h | exact nl h | (simp at h; done) | (simp at h; first | (exfalso; omega) | skip) | skip) | refine eqv_len_map ?_ | refine eqv_wrap (by omega) (by omega) ?_ | fail)
            exact ⟨(u + 1, k, p0 :: prs), ⟨by show u + 1 ≤ _; omega, i2, i3.toU (by omega)⟩, (by show _ - (u + 1) < _; omega), back [0, 1, 2, 3] rfl rfl (by repeat' (first | exact trivial | exact rfl | refine And.intro ?_ ?_)) (by repeat' (first | exact trivial | exact rfl | refine And.intro ?_ ?_))⟩
      · obtain rfl : u = r.toNat := by omega
        repeat' (first | refine o1 ?_ | refine o2 ?_ | refine k1 ?_ | refine k2 ?_ | refine k3 ?_ | refine k8 ?_ | refine And.intro ?_ ?_ | (intro h; first | exact Bool.noConfusion h | exact nz _ h | exact nl h | (simp at h; done) | (simp at h; first | (exfalso; omega) | skip) | skip) | fail)
        exact ⟨(k, p0 :: prs), ⟨u2, u3.at_, by simp only [List.length_cons]; omega⟩, Ghost.trans (Ghost.shut (i := 2) (c := 1) (x := .ms 3 4 0 ((List.map Pair.row prs).length + 1)) rfl rfl rfl (by repeat' (first | (show 0 + _ ≤ List.length _; simp))) (show ¬ (2 ∈ ([3] : List Nat)) by decide) (ALe.pv (whole_le (f := Pair.row) (l := p0 :: prs) (by simp)))) (back [0, 1, 2] rfl rfl (by repeat' (first | exact trivial | exact rfl | refine And.intro ?_ ?_)) (by repeat' (first | exact trivial | exact rfl | refine And.intro ?_ ?_)))⟩
  · exact later
end Go.Proofs.YtihpjcmloecaaaaGreat.Cw
/-
  Made models: the walk, counts.
-/
namespace Go.Proofs.YtihpjcmloecaaaaGreat.Cw
open Go.Cw Go.Proofs
set_option linter.unusedVariables false
set_option maxRecDepth 100000
set_option maxHeartbeats 30000000
theorem stageD {Q : Exit → Slots → Heap → Prop} {rest : Code} (t : List Int) (ht : t.length ≤ 400) (a b : Int) (r : Int) (r1 : 1 ≤ r) (r2 : r ≤ 4) (k : Nat) (cls : List (List Opt)) (prs : List Pair) (s2 : cls.length ≤ 5) (hcls : ∀ l ∈ cls, ClsQ r l) (p1 : k ≤ t.length)
    (later : Later (∀ x : Nat × List Count, (x.1 ≤ t.length ∧ x.2.length ≤ 2 ∧ ∀ c ∈ x.2, CtQ cls r c) → forceH [dice t x.1, zeroM, mb (.pv (.sl 1 (cls.map optsRow))) (.pv (.sl 4 (prs.map Pair.row))) (.pv (.sl 4 (x.2.map Count.row))) r] fun H1 => xCode Tryz.prog T 199 1 rest Q ([] ++ [(7, .ptr 2 4 0 0), (6, .ptr (0 + 1) 4 0 0), (0, .ptr 0 2 0 0), (0 + 1, vint .i64 a), (0 + 1 + 1, vint .i64 b)]) H1)) :
    xCode Tryz.prog T 199 1 (.seq codeD rest) Q ([] ++ [(7, .ptr 2 4 0 0), (6, .ptr (0 + 1) 4 0 0), (0, .ptr 0 2 0 0), (0 + 1, vint .i64 a), (0 + 1 + 1, vint .i64 b)]) [dice t k, zeroM, mb (.pv (.sl 1 (cls.map optsRow))) (.pv (.sl 4 (prs.map Pair.row))) nilA r] := by
  show xCode _ _ _ _ (.seq (.seq (.region 34 _ _) _) rest) _ _ _
  dsimp only [zeroM, mb, nilA]
  repeat' (first | (refine join_in (a := .seq (.region 34 _ _) _) (fun _ => []) (fun x : Nat × List Count => [dice t x.1, zeroM, mb (.pv (.sl 1 (cls.map optsRow))) (.pv (.sl 4 (prs.map Pair.row))) (.pv (.sl 4 (x.2.map Count.row))) r]) (fun x => x.1 ≤ t.length ∧ x.2.length ≤ 2 ∧ ∀ c ∈ x.2, CtQ cls r c) ?_) | refine o1 ?_ | refine o2 ?_ | refine k1 ?_ | refine k2 ?_ | refine k4 ?_ | refine And.intro ?_ ?_ | (change vcFun _ _ _ _ _; refine call_next 0 rfl (by assumption) (by assumption) (by omega) (by omega) ?_; intro v kq hv1 hv2 hkq) | fail)
  · refine loop_in (fun x : Nat × Nat × List Count => [(19, vint .i64 x.1)]) (fun x => [dice t x.2.1, zeroM, mb (.pv (.sl 1 (cls.map optsRow))) (.pv (.sl 4 (prs.map Pair.row))) (slP 3 4 (List.map Count.row (x.2.2))) r, obP 78 4 (List.map Count.row (x.2.2))]) (fun x => x.1 + x.2.2.length ≤ 2 ∧ x.2.1 ≤ t.length ∧ ∀ c ∈ x.2.2, CtQ cls r c) (fun x => x.1) (v.toNat, kq, []) ⟨by simp; omega, hkq, fun l hl => absurd hl List.not_mem_nil⟩ ⟨?_, ?_⟩
    · exact back [0, 1, 2, 3] rfl rfl (by repeat' (first | exact trivial | exact rfl | refine And.intro ?_ ?_)) ⟨slot_eq rfl (congrArg (vint .i64) (by show _ = ((v.toNat : Nat) : Int); omega)), (by repeat' (first | exact trivial | exact rfl | refine And.intro ?_ ?_))⟩
    rintro ⟨n, k, cts⟩ ⟨d1, d2, d3⟩
    dsimp only at d1 d2 d3
    rcases cts with _ | ⟨c0, cts⟩
    · simp only [List.length_cons, List.length_nil] at d1
      dsimp only [slP, obP, zeroM, mb, cb4, nilA, List.map, List.length_cons, List.length_nil, List.length_map]
      rcases Nat.eq_zero_or_pos n with rfl | hn
      · repeat' (first | refine o1 ?_ | refine o2 ?_ | refine k1 ?_ | refine k2 ?_ | refine k3 ?_ | refine k8 ?_ | refine And.intro ?_ ?_ | (intro h; first | exact Bool.noConfusion h | exact nz _ h | exact nl h | (simp at h; done) | (simp at h; first | (exfalso; omega) | skip) | skip) | fail)
        exact ⟨(k, []), ⟨d2, by simp, d3⟩, Ghost.trans (Ghost.shut (i := 2) (c := 2) (x := .pv (.val (.slice none 0 0))) rfl rfl rfl (by repeat' (first | trivial)) (show ¬ (2 ∈ ([] : List Nat)) by decide) (ALe.pv PLe.nil)) (back [0, 1, 2] rfl rfl (by repeat' (first | exact trivial | exact rfl | refine And.intro ?_ ?_)) (by repeat' (first | exact trivial | exact rfl | refine And.intro ?_ ?_)))⟩
      · repeat' (first | ((change vcFun _ _ _ _ _; refine call_cost 0 rfl (by assumption) (by assumption) ?_; intro cn kc hcn hkc)) | (refine join_in (a := .region 37 _ _) (fun _ => [(20, .ptr 4 4 0 0)]) (fun x : Nat × Int × Int × Int => [dice t x.1, zeroM, mb (.pv (.sl 1 (cls.map optsRow))) (.pv (.sl 4 (prs.map Pair.row))) (slP 3 4 (List.map Count.row ([]))) r, obP 78 4 (List.map Count.row ([])), cb4 x.2.1 nilA x.2.2.1 x.2.2.2]) (fun x => x.1 ≤ t.length ∧ (0 ≤ x.2.1 ∧ x.2.1 < r) ∧ (0 ≤ x.2.2.1 ∧ x.2.2.1 < 4) ∧ priceP x.2.2.2) ?_) | refine o1 ?_ | refine o2 ?_ | refine k1 ?_ | refine k2 ?_ | refine k3 ?_ | refine k4 ?_ | refine k6 ?_ | refine And.intro ?_ ?_ | (intro h; first | exact Bool.noConfusion h | exact nz _ h | exact nl h | (simp at h; done) | (simp at h; first | (exfalso; omega) | skip) | skip) | exact (by kernel_rfl : drawOk _ _ = true) | (change vcFun _ _ _ _ _; refine call_next 0 rfl (by assumption) (by assumption) (by omega) (by omega) ?_; intro v kq hv1 hv2 hkq) | fail)
        · rename_i v1 q1 a1 a2 a3
          refine ⟨(kc, v1, v, _), ⟨hkc, ⟨a1, a2⟩, ⟨hv1, hv2⟩, ?_⟩, back [0, 1, 2, 3, 4] rfl rfl ⟨rfl, rfl, rfl, rfl, trivial⟩ (by repeat' (first | exact trivial | exact rfl | refine And.intro ?_ ?_))⟩
          dsimp only
          exact pen_ok hcn
        refine ⟨?_⟩
        rintro ⟨k, ru, mo, pe⟩ ⟨m1, m2, m3, m4⟩
        dsimp only at m1 m2 m3 m4
        dsimp only [slP, obP, zeroM, mb, cb4, nilA, List.map, List.length_cons, List.length_nil, List.length_map]
        repeat' (first | (refine join_in (a := .seq (.region 38 _ _) _) (fun _ => []) (fun x : Nat × List Load => [dice t x.1, zeroM, mb (.pv (.sl 1 (cls.map optsRow))) (.pv (.sl 4 (prs.map Pair.row))) (slP 3 4 (List.map Count.row ([]))) r, obP 78 4 (List.map Count.row ([])), cb4 ru (.pv (.sl 3 (x.2.map Load.row))) mo pe]) (fun x => x.1 ≤ t.length ∧ (∀ n, n < x.2.length → loadAt ⟨cls, [], [], 0⟩ x.2 n) ∧ x.2.length ≤ 1000) ?_) | refine o1 ?_ | refine o2 ?_ | refine k1 ?_ | refine k2 ?_ | refine k4 ?_ | refine And.intro ?_ ?_ | fail)
        · refine loop_in (fun x : Nat × Nat × List Load => [(21, vint .i64 x.1)]) (fun x => [dice t x.2.1, zeroM, mb (.pv (.sl 1 (cls.map optsRow))) (.pv (.sl 4 (prs.map Pair.row))) (slP 3 4 (List.map Count.row ([]))) r, obP 78 4 (List.map Count.row ([])), cb4 ru (slP 5 3 (List.map Load.row (x.2.2))) mo pe, obP 102 3 (List.map Load.row (x.2.2))]) (fun x => x.1 ≤ cls.length ∧ x.2.1 ≤ t.length ∧ LoQ cls x.2.2 x.1 0) (fun x => cls.length - x.1) (0, k, []) ⟨Nat.zero_le _, m1, LoQ.nil⟩ ⟨?_, ?_⟩
          · exact back [0, 1, 2, 3, 4, 5] rfl rfl (by repeat' (first | exact trivial | exact rfl | refine And.intro ?_ ?_)) (by repeat' (first | exact trivial | exact rfl | refine And.intro ?_ ?_))
          rintro ⟨i, k, lds⟩ ⟨i1, i2, i3⟩
          dsimp only at i1 i2 i3
          have il := i3.len
          rcases lds with _ | ⟨l0, lds⟩
          · simp only [List.length_cons, List.length_nil] at il
            dsimp only [slP, obP, zeroM, mb, cb4, nilA, List.map, List.length_cons, List.length_nil, List.length_map]
            rcases Nat.lt_or_ge i cls.length with hi1 | hi1
            · obtain ⟨la, hla⟩ := getE hi1
              have hq1 := hcls la (List.mem_of_getElem? hla)
              have hq2 := hq1.2.1
              repeat' (first | refine o1 ?_ | refine o2 ?_ | refine k1 ?_ | refine k2 ?_ | refine k3 ?_ | refine k4 ?_ | refine k6 ?_ | refine And.intro ?_ ?_ | (intro h; first | exact Bool.noConfusion h | exact nz _ h | exact nl h | (simp at h; done) | (simp at h; first | (exfalso; omega) | skip) | skip) | refine eqv_len_map ?_ | fail)
              refine loop_in (fun x : Nat × Nat × List Load => [(22, vint .i64 x.1)]) (fun x => [dice t x.2.1, zeroM, mb (.pv (.sl 1 (cls.map optsRow))) (.pv (.sl 4 (prs.map Pair.row))) (slP 3 4 (List.map Count.row ([]))) r, obP 78 4 (List.map Count.row ([])), cb4 ru (slP 5 3 (List.map Load.row (x.2.2))) mo pe, obP 102 3 (List.map Load.row (x.2.2))]) (fun x => x.1 ≤ la.length ∧ x.2.1 ≤ t.length ∧ LoQ cls x.2.2 i x.1) (fun x => la.length - x.1) (0, k, []) ⟨Nat.zero_le _, i2, i3⟩ ⟨?_, ?_⟩
              · exact back [0, 1, 2, 3, 4, 5] rfl rfl (by repeat' (first | exact trivial | exact rfl | refine And.intro ?_ ?_)) (by repeat' (first | exact trivial | exact rfl | refine And.intro ?_ ?_))
              rintro ⟨j, k, lds⟩ ⟨j1, j2, j3⟩
              dsimp only at j1 j2 j3
              have jl := j3.len
              rcases lds with _ | ⟨l0, lds⟩
              · simp only [List.length_cons, List.length_nil] at jl
                dsimp only [slP, obP, zeroM, mb, cb4, nilA, List.map, List.length_cons, List.length_nil, List.length_map]
                rcases Nat.lt_or_ge j la.length with hj1 | hj1
                · repeat' (first | (refine idx_sl (k := i) (at_map hla) (by omega) ?_) | refine o1 ?_ | refine o2 ?_ | refine k1 ?_ | refine k2 ?_ | refine k3 ?_ | refine k4 ?_ | refine k6 ?_ | refine And.intro ?_ ?_ | refine o3 ?_ | refine o4 ?_ | (intro h; first | exact Bool.noConfusion h | exact nz _ h | exact nl h | (simp at h; done) | (simp at h; first | (exfalso; omega) | skip) | skip) | (refine (?_ : srcLen _ = rowsLen _); rfl) | exact Nat.le_of_ble_eq_true rfl | exact (by kernel_rfl : drawOk _ _ = true) | refine eqv_len_map ?_ | refine eqv_wrap (by omega) (by omega) ?_ | refine eqv_to _ (app_first rfl) (eqv_to 1 rfl ?_) | (change vcFun _ _ _ _ _; refine call_one2 0 rfl (by assumption) (by assumption) (by omega) (by omega) ?_; intro bq kq hkq) | (change vcFunD _ _ _ _ _; refine callD_next 0 rfl (by assumption) (by assumption) (by omega) (by omega) ?_; intro v kq hv1 hv2 hkq) | fail)
                  all_goals first
                    | (exfalso; omega)
                    | skip
                  · exact ⟨(j + 1, kq, [Load.mk i j (1 + v)]), ⟨by show j + 1 ≤ _; omega, hkq, j3.app hla hj1 (by omega) (by omega)⟩, (by show _ - (j + 1) < _; omega), back [0, 1, 2, 3, 4, 7] rfl rfl (by repeat' (first | exact trivial | exact rfl | refine And.intro ?_ ?_)) (by repeat' (first | exact trivial | exact rfl | refine And.intro ?_ ?_))⟩
                  · exact ⟨(j + 1, kq, []), ⟨by show j + 1 ≤ _; omega, hkq, j3.skip⟩, (by show _ - (j + 1) < _; omega), back [0, 1, 2, 3, 4, 5] rfl rfl (by repeat' (first | exact trivial | exact rfl | refine And.intro ?_ ?_)) (by repeat' (first | exact trivial | exact rfl | refine And.intro ?_ ?_))⟩
                · repeat' (first | (refine idx_sl (k := i) (at_map hla) (by omega) ?_) | refine o1 ?_ | refine o2 ?_ | refine k1 ?_ | refine k2 ?_ | refine k3 ?_ | refine k8 ?_ | refine And.intro ?_ ?_ | (intro h; first | exact Bool.noConfusion h | exact nz _ h | exact nl h | (simp at h; done) | (simp at h; first | (exfalso; omega) | skip) | skip) | refine eqv_len_map ?_ | refine eqv_wrap (by omega) (by omega) ?_ | fail)
                  exact ⟨(i + 1, k, []), ⟨by show i + 1 ≤ _; omega, j2, j3.toI (by omega)⟩, (by show _ - (i + 1) < _; omega), back [0, 1, 2, 3, 4, 5] rfl rfl (by repeat' (first | exact trivial | exact rfl | refine And.intro ?_ ?_)) (by repeat' (first | exact trivial | exact rfl | refine And.intro ?_ ?_))⟩
              · simp only [List.length_cons, List.length_nil] at jl
                dsimp only [slP, obP, zeroM, mb, cb4, nilA, List.map, List.length_cons, List.length_nil, List.length_map]
                rcases Nat.lt_or_ge j la.length with hj1 | hj1
                · repeat' (first | (refine idx_sl (k := i) (at_map hla) (by omega) ?_) | (refine app_consm (f := Load.row) (Load.mk i j (1 + v)) rfl ?_) | refine o1 ?_ | refine o2 ?_ | refine k1 ?_ | refine k2 ?_ | refine k3 ?_ | refine k4 ?_ | refine k6 ?_ | refine And.intro ?_ ?_ | refine o3 ?_ | refine o4 ?_ | (intro h; first | exact Bool.noConfusion h | exact nz _ h | exact nl h | (simp at h; done) | (simp at h; first | (exfalso; omega) | skip) | skip) | (refine (?_ : srcLen _ = rowsLen _); rfl) | exact (by kernel_rfl : drawOk _ _ = true) | refine eqv_len_map ?_ | refine eqv_wrap (by omega) (by omega) ?_ | (refine (?_ : _ ≤ 140737488355328); simp [rowsLen] <;> omega) | (refine (?_ : _ ≤ 9223372036854775807); simp [rowsLen] <;> omega) | (refine (?_ : _ = rowsLen _); simp [rowsLen] <;> omega) | (change vcFun _ _ _ _ _; refine call_one2 0 rfl (by assumption) (by assumption) (by omega) (by omega) ?_; intro bq kq hkq) | (change vcFunD _ _ _ _ _; refine callD_next 0 rfl (by assumption) (by assumption) (by omega) (by omega) ?_; intro v kq hv1 hv2 hkq) | fail)
                  all_goals first
                    | (exfalso; omega)
                    | skip
                  · exact ⟨(j + 1, kq, l0 :: (lds ++ [Load.mk i j (1 + v)])), ⟨by show j + 1 ≤ _; omega, hkq, j3.app hla hj1 (by omega) (by omega)⟩, (by show _ - (j + 1) < _; omega), back [0, 1, 2, 3, 4, 7] rfl rfl (by repeat' (first | exact trivial | exact rfl | refine And.intro ?_ ?_)) (by repeat' (first | exact trivial | exact rfl | refine And.intro ?_ ?_))⟩
                  · exact ⟨(j + 1, kq, l0 :: lds), ⟨by show j + 1 ≤ _; omega, hkq, j3.skip⟩, (by show _ - (j + 1) < _; omega), back [0, 1, 2, 3, 4, 5] rfl rfl (by repeat' (first | exact trivial | exact rfl | refine And.intro ?_ ?_)) (by repeat' (first | exact trivial | exact rfl | refine And.intro ?_ ?_))⟩
                · repeat' (first | (refine idx_sl (k := i) (at_map hla) (by omega) ?_) | refine o1 ?_ | refine o2 ?_ | refine k1 ?_ | refine k2 ?_ | refine k3 ?_ | refine k8 ?_ | refine And.intro ?_ ?_ | (intro h; first | exact Bool.noConfusion h | exact nz _ h | exact nl h | (simp at h; done) | (simp at h; first | (exfalso; omega) | skip) | skip) | refine eqv_len_map ?_ | refine eqv_wrap (by omega) (by omega) ?_ | fail)
                  exact ⟨(i + 1, k, l0 :: lds), ⟨by show i + 1 ≤ _; omega, j2, j3.toI (by omega)⟩, (by show _ - (i + 1) < _; omega), back [0, 1, 2, 3, 4, 5] rfl rfl (by repeat' (first | exact trivial | exact rfl | refine And.intro ?_ ?_)) (by repeat' (first | exact trivial | exact rfl | refine And.intro ?_ ?_))⟩
            · repeat' (first | refine o1 ?_ | refine o2 ?_ | refine k1 ?_ | refine k2 ?_ | refine k3 ?_ | refine k8 ?_ | refine And.intro ?_ ?_ | (intro h; first | exact Bool.noConfusion h | exact nz _ h | exact nl h | (simp at h; done) | (simp at h; first | (exfalso; omega) | skip) | skip) | refine eqv_len_map ?_ | fail)
              exact ⟨(k, []), ⟨i2, i3.at_, by simp⟩, Ghost.trans (Ghost.shut (i := 4) (c := 1) (x := .pv (.val (.slice none 0 0))) rfl rfl rfl (by repeat' (first | trivial)) (show ¬ (4 ∈ ([] : List Nat)) by decide) (ALe.pv PLe.nil)) (back [0, 1, 2, 3, 4] rfl rfl (by repeat' (first | exact trivial | exact rfl | refine And.intro ?_ ?_)) (by repeat' (first | exact trivial | exact rfl | refine And.intro ?_ ?_)))⟩
          · simp only [List.length_cons, List.length_nil] at il
            dsimp only [slP, obP, zeroM, mb, cb4, nilA, List.map, List.length_cons, List.length_nil, List.length_map]
            rcases Nat.lt_or_ge i cls.length with hi1 | hi1
            · obtain ⟨la, hla⟩ := getE hi1
              have hq1 := hcls la (List.mem_of_getElem? hla)
              have hq2 := hq1.2.1
              repeat' (first | refine o1 ?_ | refine o2 ?_ | refine k1 ?_ | refine k2 ?_ | refine k3 ?_ | refine k4 ?_ | refine k6 ?_ | refine And.intro ?_ ?_ | (intro h; first | exact Bool.noConfusion h | exact nz _ h | exact nl h | (simp at h; done) | (simp at h; first | (exfalso; omega) | skip) | skip) | refine eqv_len_map ?_ | fail)
              refine loop_in (fun x : Nat × Nat × List Load => [(22, vint .i64 x.1)]) (fun x => [dice t x.2.1, zeroM, mb (.pv (.sl 1 (cls.map optsRow))) (.pv (.sl 4 (prs.map Pair.row))) (slP 3 4 (List.map Count.row ([]))) r, obP 78 4 (List.map Count.row ([])), cb4 ru (slP 5 3 (List.map Load.row (x.2.2))) mo pe, obP 102 3 (List.map Load.row (x.2.2))]) (fun x => x.1 ≤ la.length ∧ x.2.1 ≤ t.length ∧ LoQ cls x.2.2 i x.1) (fun x => la.length - x.1) (0, k, l0 :: lds) ⟨Nat.zero_le _, i2, i3⟩ ⟨?_, ?_⟩
              · exact back [0, 1, 2, 3, 4, 5] rfl rfl (by repeat' (first | exact trivial | exact rfl | refine And.intro ?_ ?_)) (by repeat' (first | exact trivial | exact rfl | refine And.intro ?_ ?_))
              rintro ⟨j, k, lds⟩ ⟨j1, j2, j3⟩
              dsimp only at j1 j2 j3
              have jl := j3.len
              rcases lds with _ | ⟨l0, lds⟩
              · simp only [List.length_cons, List.length_nil] at jl
                dsimp only [slP, obP, zeroM, mb, cb4, nilA, List.map, List.length_cons, List.length_nil, List.length_map]
                rcases Nat.lt_or_ge j la.length with hj1 | hj1
                · repeat' (first | (refine idx_sl (k := i) (at_map hla) (by omega) ?_) | refine o1 ?_ | refine o2 ?_ | refine k1 ?_ | refine k2 ?_ | refine k3 ?_ | refine k4 ?_ | refine k6 ?_ | refine And.intro ?_ ?_ | refine o3 ?_ | refine o4 ?_ | (intro h; first | exact Bool.noConfusion h | exact nz _ h | exact nl h | (simp at h; done) | (simp at h; first | (exfalso; omega) | skip) | skip) | (refine (?_ : srcLen _ = rowsLen _); rfl) | exact Nat.le_of_ble_eq_true rfl | exact (by kernel_rfl : drawOk _ _ = true) | refine eqv_len_map ?_ | refine eqv_wrap (by omega) (by omega) ?_ | refine eqv_to _ (app_first rfl) (eqv_to 1 rfl ?_) | (change vcFun _ _ _ _ _; refine call_one2 0 rfl (by assumption) (by assumption) (by omega) (by omega) ?_; intro bq kq hkq) | (change vcFunD _ _ _ _ _; refine callD_next 0 rfl (by assumption) (by assumption) (by omega) (by omega) ?_; intro v kq hv1 hv2 hkq) | fail)
                  all_goals first
                    | (exfalso; omega)
                    | skip
                  · exact ⟨(j + 1, kq, [Load.mk i j (1 + v)]), ⟨by show j + 1 ≤ _; omega, hkq, j3.app hla hj1 (by omega) (by omega)⟩, (by show _ - (j + 1) < _; omega), back [0, 1, 2, 3, 4, 7] rfl rfl (by repeat' (first | exact trivial | exact rfl | refine And.intro ?_ ?_)) (by repeat' (first | exact trivial | exact rfl | refine And.intro ?_ ?_))⟩
                  · exact ⟨(j + 1, kq, []), ⟨by show j + 1 ≤ _; omega, hkq, j3.skip⟩, (by show _ - (j + 1) < _; omega), back [0, 1, 2, 3, 4, 5] rfl rfl (by repeat' (first | exact trivial | exact rfl | refine And.intro ?_ ?_)) (by repeat' (first | exact trivial | exact rfl | refine And.intro ?_ ?_))⟩
                · repeat' (first | (refine idx_sl (k := i) (at_map hla) (by omega) ?_) | refine o1 ?_ | refine o2 ?_ | refine k1 ?_ | refine k2 ?_ | refine k3 ?_ | refine k8 ?_ | refine And.intro ?_ ?_ | (intro h; first | exact Bool.noConfusion h | exact nz _ h | exact nl h | (simp at h; done) | (simp at h; first | (exfalso; omega) | skip) | skip) | refine eqv_len_map ?_ | refine eqv_wrap (by omega) (by omega) ?_ | fail)
                  exact ⟨(i + 1, k, []), ⟨by show i + 1 ≤ _; omega, j2, j3.toI (by omega)⟩, (by show _ - (i + 1) < _; omega), back [0, 1, 2, 3, 4, 5] rfl rfl (by repeat' (first | exact trivial | exact rfl | refine And.intro ?_ ?_)) (by repeat' (first | exact trivial | exact rfl | refine And.intro ?_ ?_))⟩
              · simp only [List.length_cons, List.length_nil] at jl
                dsimp only [slP, obP, zeroM, mb, cb4, nilA, List.map, List.length_cons, List.length_nil, List.length_map]
                rcases Nat.lt_or_ge j la.length with hj1 | hj1
                · repeat' (first | (refine idx_sl (k := i) (at_map hla) (by omega) ?_) | (refine app_consm (f := Load.row) (Load.mk i j (1 + v)) rfl ?_) | refine o1 ?_ | refine o2 ?_ | refine k1 ?_ | refine k2 ?_ | refine k3 ?_ | refine k4 ?_ | refine k6 ?_ | refine And.intro ?_ ?_ | refine o3 ?_ | refine o4 ?_ | (intro h; first | exact Bool.noConfusion h | exact nz _ h | exact nl h | (simp at h; done) | (simp at h; first | (exfalso; omega) | skip) | skip) | (refine (?_ : srcLen _ = rowsLen _); rfl) | exact (by kernel_rfl : drawOk _ _ = true) | refine eqv_len_map ?_ | refine eqv_wrap (by omega) (by omega) ?_ | (refine (?_ : _ ≤ 140737488355328); simp [rowsLen] <;> omega) | (refine (?_ : _ ≤ 9223372036854775807); simp [rowsLen] <;> omega) | (refine (?_ : _ = rowsLen _); simp [rowsLen] <;> omega) | (change vcFun _ _ _ _ _; refine call_one2 0 rfl (by assumption) (by assumption) (by omega) (by omega) ?_; intro bq kq hkq) | (change vcFunD _ _ _ _ _; refine callD_next 0 rfl (by assumption) (by assumption) (by omega) (by omega) ?_; intro v kq hv1 hv2 hkq) | fail)
                  all_goals first
                    | (exfalso; omega)
                    | skip
                  · exact ⟨(j + 1, kq, l0 :: (lds ++ [Load.mk i j (1 + v)])), ⟨by show j + 1 ≤ _; omega, hkq, j3.app hla hj1 (by omega) (by omega)⟩, (by show _ - (j + 1) < _; omega), back [0, 1, 2, 3, 4, 7] rfl rfl (by repeat' (first | exact trivial | exact rfl | refine And.intro ?_ ?_)) (by repeat' (first | exact trivial | exact rfl | refine And.intro ?_ ?_))⟩
                  · exact ⟨(j + 1, kq, l0 :: lds), ⟨by show j + 1 ≤ _; omega, hkq, j3.skip⟩, (by show _ - (j + 1) < _; omega), back [0, 1, 2, 3, 4, 5] rfl rfl (by repeat' (first | exact trivial | exact rfl | refine And.intro ?_ ?_)) (by repeat' (first | exact trivial | exact rfl | refine And.intro ?_ ?_))⟩
                · repeat' (first | (refine idx_sl (k := i) (at_map hla) (by omega) ?_) | refine o1 ?_ | refine o2 ?_ | refine k1 ?_ | refine k2 ?_ | refine k3 ?_ | refine k8 ?_ | refine And.intro ?_ ?_ | (intro h; first | exact Bool.noConfusion h | exact nz _ h | exact nl h | (simp at h; done) | (simp at h; first | (exfalso; omega) | skip) | skip) | refine eqv_len_map ?_ | refine eqv_wrap (by omega) (by omega) ?_ | fail)
                  exact ⟨(i + 1, k, l0 :: lds), ⟨by show i + 1 ≤ _; omega, j2, j3.toI (by omega)⟩, (by show _ - (i + 1) < _; omega), back [0, 1, 2, 3, 4, 5] rfl rfl (by repeat' (first | exact trivial | exact rfl | refine And.intro ?_ ?_)) (by repeat' (first | exact trivial | exact rfl | refine And.intro ?_ ?_))⟩
            · repeat' (first | refine o1 ?_ | refine o2 ?_ | refine k1 ?_ | refine k2 ?_ | refine k3 ?_ | refine k8 ?_ | refine And.intro ?_ ?_ | (intro h; first | exact Bool.noConfusion h | exact nz _ h | exact nl h | (simp at h; done) | (simp at h; first | (exfalso; omega) | skip) | skip) | refine eqv_len_map ?_ | fail)
              exact ⟨(k, l0 :: lds), ⟨i2, i3.at_, by simp only [List.length_cons]; omega⟩, Ghost.trans (Ghost.shut (i := 4) (c := 1) (x := .ms 5 3 0 ((List.map Load.row lds).length + 1)) rfl rfl rfl (by repeat' (first | (show 0 + _ ≤ List.length _; simp))) (show ¬ (4 ∈ ([5] : List Nat)) by decide) (ALe.pv (whole_le (f := Load.row) (l := l0 :: lds) (by simp)))) (back [0, 1, 2, 3, 4] rfl rfl (by repeat' (first | exact trivial | exact rfl | refine And.intro ?_ ?_)) (by repeat' (first | exact trivial | exact rfl | refine And.intro ?_ ?_)))⟩
        refine ⟨?_⟩
        rintro ⟨k, lds⟩ ⟨f1, f2, f3⟩
        dsimp only at f1 f2 f3
        dsimp only [slP, obP, zeroM, mb, cb4, nilA, List.map, List.length_cons, List.length_nil, List.length_map]
        repeat' (first | refine o1 ?_ | refine o2 ?_ | refine k2 ?_ | refine And.intro ?_ ?_ | (intro h; first | exact Bool.noConfusion h | exact nz _ h | exact nl h | (simp at h; done) | (simp at h; first | (exfalso; omega) | skip) | skip) | (refine (?_ : srcLen _ = rowsLen _); rfl) | exact Nat.le_of_ble_eq_true rfl | refine eqv_wrap (by omega) (by omega) ?_ | refine eqv_to _ (app_first rfl) (eqv_to 1 rfl ?_) | fail)
        exact ⟨(n - 1, k, [Count.mk ru lds mo pe]), ⟨by show n - 1 + List.length _ ≤ 2; simp; try omega, f1, all_app (l := []) d3 (show CtQ cls r (Count.mk ru lds mo pe) from ⟨⟨m2, m3.1, by have := m3.2; dsimp only; omega, m4, f2⟩, f3⟩)⟩, (by show n - 1 < n; omega), back [0, 1, 2, 6] rfl rfl (by repeat' (first | exact trivial | exact rfl | refine And.intro ?_ ?_)) ⟨slot_eq rfl (congrArg (vint .i64) (by show _ = ((n - 1 : Nat) : Int); omega)), (by repeat' (first | exact trivial | exact rfl | refine And.intro ?_ ?_))⟩⟩
    · simp only [List.length_cons, List.length_nil] at d1
      dsimp only [slP, obP, zeroM, mb, cb4, nilA, List.map, List.length_cons, List.length_nil, List.length_map]
      rcases Nat.eq_zero_or_pos n with rfl | hn
      · repeat' (first | refine o1 ?_ | refine o2 ?_ | refine k1 ?_ | refine k2 ?_ | refine k3 ?_ | refine k8 ?_ | refine And.intro ?_ ?_ | (intro h; first | exact Bool.noConfusion h | exact nz _ h | exact nl h | (simp at h; done) | (simp at h; first | (exfalso; omega) | skip) | skip) | fail)
        exact ⟨(k, c0 :: cts), ⟨d2, by simp only [List.length_cons]; omega, d3⟩, Ghost.trans (Ghost.shut (i := 2) (c := 2) (x := .ms 3 4 0 ((List.map Count.row cts).length + 1)) rfl rfl rfl (by repeat' (first | (show 0 + _ ≤ List.length _; simp))) (show ¬ (2 ∈ ([3] : List Nat)) by decide) (ALe.pv (whole_le (f := Count.row) (l := c0 :: cts) (by simp)))) (back [0, 1, 2] rfl rfl (by repeat' (first | exact trivial | exact rfl | refine And.intro ?_ ?_)) (by repeat' (first | exact trivial | exact rfl | refine And.intro ?_ ?_)))⟩
      · repeat' (first | ((change vcFun _ _ _ _ _; refine call_cost 0 rfl (by assumption) (by assumption) ?_; intro cn kc hcn hkc)) | (refine join_in (a := .region 37 _ _) (fun _ => [(20, .ptr 4 4 0 0)]) (fun x : Nat × Int × Int × Int => [dice t x.1, zeroM, mb (.pv (.sl 1 (cls.map optsRow))) (.pv (.sl 4 (prs.map Pair.row))) (slP 3 4 (List.map Count.row (c0 :: cts))) r, obP 78 4 (List.map Count.row (c0 :: cts)), cb4 x.2.1 nilA x.2.2.1 x.2.2.2]) (fun x => x.1 ≤ t.length ∧ (0 ≤ x.2.1 ∧ x.2.1 < r) ∧ (0 ≤ x.2.2.1 ∧ x.2.2.1 < 4) ∧ priceP x.2.2.2) ?_) | refine o1 ?_ | refine o2 ?_ | refine k1 ?_ | refine k2 ?_ | refine k3 ?_ | refine k4 ?_ | refine k6 ?_ | refine And.intro ?_ ?_ | (intro h; first | exact Bool.noConfusion h | exact nz _ h | exact nl h | (simp at h; done) | (simp at h; first | (exfalso; omega) | skip) | skip) | exact (by kernel_rfl : drawOk _ _ = true) | (change vcFun _ _ _ _ _; refine call_next 0 rfl (by assumption) (by assumption) (by omega) (by omega) ?_; intro v kq hv1 hv2 hkq) | fail)
        · rename_i v1 q1 a1 a2 a3
          refine ⟨(kc, v1, v, _), ⟨hkc, ⟨a1, a2⟩, ⟨hv1, hv2⟩, ?_⟩, back [0, 1, 2, 3, 4] rfl rfl ⟨rfl, rfl, rfl, rfl, rfl, trivial⟩ (by repeat' (first | exact trivial | exact rfl | refine And.intro ?_ ?_))⟩
          dsimp only
          exact pen_ok hcn
        refine ⟨?_⟩
        rintro ⟨k, ru, mo, pe⟩ ⟨m1, m2, m3, m4⟩
        dsimp only at m1 m2 m3 m4
        dsimp only [slP, obP, zeroM, mb, cb4, nilA, List.map, List.length_cons, List.length_nil, List.length_map]
        repeat' (first | (refine join_in (a := .seq (.region 38 _ _) _) (fun _ => []) (fun x : Nat × List Load => [dice t x.1, zeroM, mb (.pv (.sl 1 (cls.map optsRow))) (.pv (.sl 4 (prs.map Pair.row))) (slP 3 4 (List.map Count.row (c0 :: cts))) r, obP 78 4 (List.map Count.row (c0 :: cts)), cb4 ru (.pv (.sl 3 (x.2.map Load.row))) mo pe]) (fun x => x.1 ≤ t.length ∧ (∀ n, n < x.2.length → loadAt ⟨cls, [], [], 0⟩ x.2 n) ∧ x.2.length ≤ 1000) ?_) | refine o1 ?_ | refine o2 ?_ | refine k1 ?_ | refine k2 ?_ | refine k4 ?_ | refine And.intro ?_ ?_ | fail)
        · refine loop_in (fun x : Nat × Nat × List Load => [(21, vint .i64 x.1)]) (fun x => [dice t x.2.1, zeroM, mb (.pv (.sl 1 (cls.map optsRow))) (.pv (.sl 4 (prs.map Pair.row))) (slP 3 4 (List.map Count.row (c0 :: cts))) r, obP 78 4 (List.map Count.row (c0 :: cts)), cb4 ru (slP 5 3 (List.map Load.row (x.2.2))) mo pe, obP 102 3 (List.map Load.row (x.2.2))]) (fun x => x.1 ≤ cls.length ∧ x.2.1 ≤ t.length ∧ LoQ cls x.2.2 x.1 0) (fun x => cls.length - x.1) (0, k, []) ⟨Nat.zero_le _, m1, LoQ.nil⟩ ⟨?_, ?_⟩
          · exact back [0, 1, 2, 3, 4, 5] rfl rfl (by repeat' (first | exact trivial | exact rfl | refine And.intro ?_ ?_)) (by repeat' (first | exact trivial | exact rfl | refine And.intro ?_ ?_))
          rintro ⟨i, k, lds⟩ ⟨i1, i2, i3⟩
          dsimp only at i1 i2 i3
          have il := i3.len
          rcases lds with _ | ⟨l0, lds⟩
          · simp only [List.length_cons, List.length_nil] at il
            dsimp only [slP, obP, zeroM, mb, cb4, nilA, List.map, List.length_cons, List.length_nil, List.length_map]
            rcases Nat.lt_or_ge i cls.length with hi1 | hi1
            · obtain ⟨la, hla⟩ := getE hi1
              have hq1 := hcls la (List.mem_of_getElem? hla)
              have hq2 := hq1.2.1
              repeat' (first | refine o1 ?_ | refine o2 ?_ | refine k1 ?_ | refine k2 ?_ | refine k3 ?_ | refine k4 ?_ | refine k6 ?_ | refine And.intro ?_ ?_ | (intro h; first | exact Bool.noConfusion h | exact nz _ h | exact nl h | (simp at h; done) | (simp at h; first | (exfalso; omega) | skip) | skip) | refine eqv_len_map ?_ | fail)
              refine loop_in (fun x : Nat × Nat × List Load => [(22, vint .i64 x.1)]) (fun x => [dice t x.2.1, zeroM, mb (.pv (.sl 1 (cls.map optsRow))) (.pv (.sl 4 (prs.map Pair.row))) (slP 3 4 (List.map Count.row (c0 :: cts))) r, obP 78 4 (List.map Count.row (c0 :: cts)), cb4 ru (slP 5 3 (List.map Load.row (x.2.2))) mo pe, obP 102 3 (List.map Load.row (x.2.2))]) (fun x => x.1 ≤ la.length ∧ x.2.1 ≤ t.length ∧ LoQ cls x.2.2 i x.1) (fun x => la.length - x.1) (0, k, []) ⟨Nat.zero_le _, i2, i3⟩ ⟨?_, ?_⟩
              · exact back [0, 1, 2, 3, 4, 5] rfl rfl (by repeat' (first | exact trivial | exact rfl | refine And.intro ?_ ?_)) (by repeat' (first | exact trivial | exact rfl | refine And.intro ?_ ?_))
              rintro ⟨j, k, lds⟩ ⟨j1, j2, j3⟩
              dsimp only at j1 j2 j3
              have jl := j3.len
              rcases lds with _ | ⟨l0, lds⟩
              · simp only [List.length_cons, List.length_nil] at jl
                dsimp only [slP, obP, zeroM, mb, cb4, nilA, List.map, List.length_cons, List.length_nil, List.length_map]
                rcases Nat.lt_or_ge j la.length with hj1 | hj1
                · repeat' (first | (refine idx_sl (k := i) (at_map hla) (by omega) ?_) | refine o1 ?_ | refine o2 ?_ | refine k1 ?_ | refine k2 ?_ | refine k3 ?_ | refine k4 ?_ | refine k6 ?_ | refine And.intro ?_ ?_ | refine o3 ?_ | refine o4 ?_ | (intro h; first | exact Bool.noConfusion h | exact nz _ h | exact nl h | (simp at h; done) | (simp at h; first | (exfalso; omega) | skip) | skip) | (refine (?_ : srcLen _ = rowsLen _); rfl) | exact Nat.le_of_ble_eq_true rfl | exact (by kernel_rfl : drawOk _ _ = true) | refine eqv_len_map ?_ | refine eqv_wrap (by omega) (by omega) ?_ | refine eqv_to _ (app_first rfl) (eqv_to 1 rfl ?_) | (change vcFun _ _ _ _ _; refine call_one2 0 rfl (by assumption) (by assumption) (by omega) (by omega) ?_; intro bq kq hkq) | (change vcFunD _ _ _ _ _; refine callD_next 0 rfl (by assumption) (by assumption) (by omega) (by omega) ?_; intro v kq hv1 hv2 hkq) | fail)
                  all_goals first
                    | (exfalso; omega)
                    | skip
                  · exact ⟨(j + 1, kq, [Load.mk i j (1 + v)]), ⟨by show j + 1 ≤ _; omega, hkq, j3.app hla hj1 (by omega) (by omega)⟩, (by show _ - (j + 1) < _; omega), back [0, 1, 2, 3, 4, 7] rfl rfl (by repeat' (first | exact trivial | exact rfl | refine And.intro ?_ ?_)) (by repeat' (first | exact trivial | exact rfl | refine And.intro ?_ ?_))⟩
                  · exact ⟨(j + 1, kq, []), ⟨by show j + 1 ≤ _; omega, hkq, j3.skip⟩, (by show _ - (j + 1) < _; omega), back [0, 1, 2, 3, 4, 5] rfl rfl (by repeat' (first | exact trivial | exact rfl | refine And.intro ?_ ?_)) (by repeat' (first | exact trivial | exact rfl | refine And.intro ?_ ?_))⟩
                · repeat' (first | (refine idx_sl (k := i) (at_map hla) (by omega) ?_) | refine o1 ?_ | refine o2 ?_ | refine k1 ?_ | refine k2 ?_ | refine k3 ?_ | refine k8 ?_ | refine And.intro ?_ ?_ | (intro h; first | exact Bool.noConfusion h | exact nz _ h | exact nl h | (simp at h; done) | (simp at h; first | (exfalso; omega) | skip) | skip) | refine eqv_len_map ?_ | refine eqv_wrap (by omega) (by omega) ?_ | fail)
                  exact ⟨(i + 1, k, []), ⟨by show i + 1 ≤ _; omega, j2, j3.toI (by omega)⟩, (by show _ - (i + 1) < _; omega), back [0, 1, 2, 3, 4, 5] rfl rfl (by repeat' (first | exact trivial | exact rfl | refine And.intro ?_ ?_)) (by repeat' (first | exact trivial | exact rfl | refine And.intro ?_ ?_))⟩
              · simp only [List.length_cons, List.length_nil] at jl
                dsimp only [slP, obP, zeroM, mb, cb4, nilA, List.map, List.length_cons, List.length_nil, List.length_map]
                rcases Nat.lt_or_ge j la.length with hj1 | hj1
                · repeat' (first | (refine idx_sl (k := i) (at_map hla) (by omega) ?_) | (refine app_consm (f := Load.row) (Load.mk i j (1 + v)) rfl ?_) | refine o1 ?_ | refine o2 ?_ | refine k1 ?_ | refine k2 ?_ | refine k3 ?_ | refine k4 ?_ | refine k6 ?_ | refine And.intro ?_ ?_ | refine o3 ?_ | refine o4 ?_ | (intro h; first | exact Bool.noConfusion h | exact nz _ h | exact nl h | (simp at h; done) | (simp at h; first | (exfalso; omega) | skip) | skip) | (refine (?_ : srcLen _ = rowsLen _); rfl) | exact (by kernel_rfl : drawOk _ _ = true) | refine eqv_len_map ?_ | refine eqv_wrap (by omega) (by omega) ?_ | (refine (?_ : _ ≤ 140737488355328); simp [rowsLen] <;> omega) | (refine (?_ : _ ≤ 9223372036854775807); simp [rowsLen] <;> omega) | (refine (?_ : _ = rowsLen _); simp [rowsLen] <;> omega) | (change vcFun _ _ _ _ _; refine call_one2 0 rfl (by assumption) (by assumption) (by omega) (by omega) ?_; intro bq kq hkq) | (change vcFunD _ _ _ _ _; refine callD_next 0 rfl (by assumption) (by assumption) (by omega) (by omega) ?_; intro v kq hv1 hv2 hkq) | fail)
                  all_goals first
                    | (exfalso; omega)
                    | skip
                  · exact ⟨(j + 1, kq, l0 :: (lds ++ [Load.mk i j (1 + v)])), ⟨by show j + 1 ≤ _; omega, hkq, j3.app hla hj1 (by omega) (by omega)⟩, (by show _ - (j + 1) < _; omega), back [0, 1, 2, 3, 4, 7] rfl rfl (by repeat' (first | exact trivial | exact rfl | refine And.intro ?_ ?_)) (by repeat' (first | exact trivial | exact rfl | refine And.intro ?_ ?_))⟩
                  · exact ⟨(j + 1, kq, l0 :: lds), ⟨by show j + 1 ≤ _; omega, hkq, j3.skip⟩, (by show _ - (j + 1) < _; omega), back [0, 1, 2, 3, 4, 5] rfl rfl (by repeat' (first | exact trivial | exact rfl | refine And.intro ?_ ?_)) (by repeat' (first | exact trivial | exact rfl | refine And.intro ?_ ?_))⟩
                · repeat' (first | (refine idx_sl (k := i) (at_map hla) (by omega) ?_) | refine o1 ?_ | refine o2 ?_ | refine k1 ?_ | refine k2 ?_ | refine k3 ?_ | refine k8 ?_ | refine And.intro ?_ ?_ | (intro h; first | exact Bool.noConfusion h | exact nz _ h | exact nl h | (simp at h; done) | (simp at h; first | (exfalso; omega) | skip) | skip) | refine eqv_len_map ?_ | refine eqv_wrap (by omega) (by omega) ?_ | fail)
                  exact ⟨(i + 1, k, l0 :: lds), ⟨by show i + 1 ≤ _; omega, j2, j3.toI (by omega)⟩, (by show _ - (i + 1) < _; omega), back [0, 1, 2, 3, 4, 5] rfl rfl (by repeat' (first | exact trivial | exact rfl | refine And.intro ?_ ?_)) (by repeat' (first | exact trivial | exact rfl | refine And.intro ?_ ?_))⟩
            · repeat' (first | refine o1 ?_ | refine o2 ?_ | refine k1 ?_ | refine k2 ?_ | refine k3 ?_ | refine k8 ?_ | refine And.intro ?_ ?_ | (intro h; first | exact Bool.noConfusion h | exact nz _ h | exact nl h | (simp at h; done) | (simp at h; first | (exfalso; omega) | skip) | skip) | refine eqv_len_map ?_ | fail)
              exact ⟨(k, []), ⟨i2, i3.at_, by simp⟩, Ghost.trans (Ghost.shut (i := 4) (c := 1) (x := .pv (.val (.slice none 0 0))) rfl rfl rfl (by repeat' (first | trivial)) (show ¬ (4 ∈ ([] : List Nat)) by decide) (ALe.pv PLe.nil)) (back [0, 1, 2, 3, 4] rfl rfl (by repeat' (first | exact trivial | exact rfl | refine And.intro ?_ ?_)) (by repeat' (first | exact trivial | exact rfl | refine And.intro ?_ ?_)))⟩
          · simp only [List.length_cons, List.length_nil] at il
            dsimp only [slP, obP, zeroM, mb, cb4, nilA, List.map, List.length_cons, List.length_nil, List.length_map]
            rcases Nat.lt_or_ge i cls.length with hi1 | hi1
            · obtain ⟨la, hla⟩ := getE hi1
              have hq1 := hcls la (List.mem_of_getElem? hla)
              have hq2 := hq1.2.1
              repeat' (first | refine o1 ?_ | refine o2 ?_ | refine k1 ?_ | refine k2 ?_ | refine k3 ?_ | refine k4 ?_ | refine k6 ?_ | refine And.intro ?_ ?_ | (intro h; first | exact Bool.noConfusion h | exact nz _ h | exact nl h | (simp at h; done) | (simp at h; first | (exfalso; omega) | skip) | skip) | refine eqv_len_map ?_ | fail)
              refine loop_in (fun x : Nat × Nat × List Load => [(22, vint .i64 x.1)]) (fun x => [dice t x.2.1, zeroM, mb (.pv (.sl 1 (cls.map optsRow))) (.pv (.sl 4 (prs.map Pair.row))) (slP 3 4 (List.map Count.row (c0 :: cts))) r, obP 78 4 (List.map Count.row (c0 :: cts)), cb4 ru (slP 5 3 (List.map Load.row (x.2.2))) mo pe, obP 102 3 (List.map Load.row (x.2.2))]) (fun x => x.1 ≤ la.length ∧ x.2.1 ≤ t.length ∧ LoQ cls x.2.2 i x.1) (fun x => la.length - x.1) (0, k, l0 :: lds) ⟨Nat.zero_le _, i2, i3⟩ ⟨?_, ?_⟩
              · exact back [0, 1, 2, 3, 4, 5] rfl rfl (by repeat' (first | exact trivial | exact rfl | refine And.intro ?_ ?_)) (by repeat' (first | exact trivial | exact rfl | refine And.intro ?_ ?_))
              rintro ⟨j, k, lds⟩ ⟨j1, j2, j3⟩
              dsimp only at j1 j2 j3
              have jl := j3.len
              rcases lds with _ | ⟨l0, lds⟩
              · simp only [List.length_cons, List.length_nil] at jl
                dsimp only [slP, obP, zeroM, mb, cb4, nilA, List.map, List.length_cons, List.length_nil, List.length_map]
                rcases Nat.lt_or_ge j la.length with hj1 | hj1
                · repeat' (first | (refine idx_sl (k := i) (at_map hla) (by omega) ?_) | refine o1 ?_ | refine o2 ?_ | refine k1 ?_ | refine k2 ?_ | refine k3 ?_ | refine k4 ?_ | refine k6 ?_ | refine And.intro ?_ ?_ | refine o3 ?_ | refine o4 ?_ | (intro h; first | exact Bool.noConfusion h | exact nz _ h | exact nl h | (simp at h; done) | (simp at h; first | (exfalso; omega) | skip) | skip) | (refine (?_ : srcLen _ = rowsLen _); rfl) | exact Nat.le_of_ble_eq_true rfl | exact (by kernel_rfl : drawOk _ _ = true) | refine eqv_len_map ?_ | refine eqv_wrap (by omega) (by omega) ?_ | refine eqv_to _ (app_first rfl) (eqv_to 1 rfl ?_) | (change vcFun _ _ _ _ _; refine call_one2 0 rfl (by assumption) (by assumption) (by omega) (by omega) ?_; intro bq kq hkq) | (change vcFunD _ _ _ _ _; refine callD_next 0 rfl (by assumption) (by assumption) (by omega) (by omega) ?_; intro v kq hv1 hv2 hkq) | fail)
                  all_goals first
                    | (exfalso; omega)
                    | skip
                  · exact ⟨(j + 1, kq, [Load.mk i j (1 + v)]), ⟨by show j + 1 ≤ _; omega, hkq, j3.app hla hj1 (by omega) (by omega)⟩, (by show _ - (j + 1) < _; omega), back [0, 1, 2, 3, 4, 7] rfl rfl (by repeat' (first | exact trivial | exact rfl | refine And.intro ?_ ?_)) (by repeat' (first | exact trivial | exact rfl | refine And.intro ?_ ?_))⟩
                  · exact ⟨(j + 1, kq, []), ⟨by show j + 1 ≤ _; omega, hkq, j3.skip⟩, (by show _ - (j + 1) < _; omega), back [0, 1, 2, 3, 4, 5] rfl rfl (by repeat' (first | exact trivial | exact rfl | refine And.intro ?_ ?_)) (by repeat' (first | exact trivial | exact rfl | refine And.intro ?_ ?_))⟩
                · repeat' (first | (refine idx_sl (k := i) (at_map hla) (by omega) ?_) | refine o1 ?_ | refine o2 ?_ | refine k1 ?_ | refine k2 ?_ | refine k3 ?_ | refine k8 ?_ | refine And.intro ?_ ?_ | (intro h; first | exact Bool.noConfusion h | exact nz _ h | exact nl h | (simp at h; done) | (simp at h; first | (exfalso; omega) | skip) | skip) | refine eqv_len_map ?_ | refine eqv_wrap (by omega) (by omega) ?_ | fail)
                  exact ⟨(i + 1, k, []), ⟨by show i + 1 ≤ _; omega, j2, j3.toI (by omega)⟩, (by show _ - (i + 1) < _; omega), back [0, 1, 2, 3, 4, 5] rfl rfl (by repeat' (first | exact trivial | exact rfl | refine And.intro ?_ ?_)) (by repeat' (first | exact trivial | exact rfl | refine And.intro ?_ ?_))⟩
              · simp only [List.length_cons, List.length_nil] at jl
                dsimp only [slP, obP, zeroM, mb, cb4, nilA, List.map, List.length_cons, List.length_nil, List.length_map]
                rcases Nat.lt_or_ge j la.length with hj1 | hj1
                · repeat' (first | (refine idx_sl (k := i) (at_map hla) (by omega) ?_) | (refine app_consm (f := Load.row) (Load.mk i j (1 + v)) rfl ?_) | refine o1 ?_ | refine o2 ?_ | refine k1 ?_ | refine k2 ?_ | refine k3 ?_ | refine k4 ?_ | refine k6 ?_ | refine And.intro ?_ ?_ | refine o3 ?_ | refine o4 ?_ | (intro h; first | exact Bool.noConfusion h | exact nz _ h | exact nl h | (simp at h; done) | (simp at h; first | (exfalso; omega) | skip) | skip) | (refine (?_ : srcLen _ = rowsLen _); rfl) | exact (by kernel_rfl : drawOk _ _ = true) | refine eqv_len_map ?_ | refine eqv_wrap (by omega) (by omega) ?_ | (refine (?_ : _ ≤ 140737488355328); simp [rowsLen] <;> omega) | (refine (?_ : _ ≤ 9223372036854775807); simp [rowsLen] <;> omega) | (refine (?_ : _ = rowsLen _); simp [rowsLen] <;> omega) | (change vcFun _ _ _ _ _; refine call_one2 0 rfl (by assumption) (by assumption) (by omega) (by omega) ?_; intro bq kq hkq) | (change vcFunD _ _ _ _ _; refine callD_next 0 rfl (by assumption) (by assumption) (by omega) (by omega) ?_; intro v kq hv1 hv2 hkq) | fail)
                  all_goals first
                    | (exfalso; omega)
                    | skip
                  · exact ⟨(j + 1, kq, l0 :: (lds ++ [Load.mk i j (1 + v)])), ⟨by show j + 1 ≤ _; omega, hkq, j3.app hla hj1 (by omega) (by omega)⟩, (by show _ - (j + 1) < _; omega), back [0, 1, 2, 3, 4, 7] rfl rfl (by repeat' (first | exact trivial | exact rfl | refine And.intro ?_ ?_)) (by repeat' (first | exact trivial | exact rfl | refine And.intro ?_ ?_))⟩
                  · exact ⟨(j + 1, kq, l0 :: lds), ⟨by show j + 1 ≤ _; omega, hkq, j3.skip⟩, (by show _ - (j + 1) < _; omega), back [0, 1, 2, 3, 4, 5] rfl rfl (by repeat' (first | exact trivial | exact rfl | refine And.intro ?_ ?_)) (by repeat' (first | exact trivial | exact rfl | refine And.intro ?_ ?_))⟩
                · repeat' (first | (refine idx_sl (k := i) (at_map hla) (by omega) ?_) | refine o1 ?_ | refine o2 ?_ | refine k1 ?_ | refine k2 ?_ | refine k3 ?_ | refine k8 ?_ | refine And.intro ?_ ?_ | (intro h; first | exact Bool.noConfusion h | exact nz _ h | exact nl h | (simp at h; done) | (simp at h; first | (exfalso; omega) | skip) | skip) | refine eqv_len_map ?_ | refine eqv_wrap (by omega) (by omega) ?_ | fail)
                  exact ⟨(i + 1, k, l0 :: lds), ⟨by show i + 1 ≤ _; omega, j2, j3.toI (by omega)⟩, (by show _ - (i + 1) < _; omega), back [0, 1, 2, 3, 4, 5] rfl rfl (by repeat' (first | exact trivial | exact rfl | refine And.intro ?_ ?_)) (by repeat' (first | exact trivial | exact rfl | refine And.intro ?_ ?_))⟩
            · repeat' (first | refine o1 ?_ | refine o2 ?_ | refine k1 ?_ | refine k2 ?_ | refine k3 ?_ | refine k8 ?_ | refine And.intro ?_ ?_ | (intro h; first | exact Bool.noConfusion h | exact nz _ h | exact nl h | (simp at h; done) | (simp at h; first | (exfalso; omega) | skip) | skip) | refine eqv_len_map ?_ | fail)
              exact ⟨(k, l0 :: lds), ⟨i2, i3.at_, by simp only [List.length_cons]; omega⟩, Ghost.trans (Ghost.shut (i := 4) (c := 1) (x := .ms 5 3 0 ((List.map Load.row lds).length + 1)) rfl rfl rfl (by repeat' (first | (show 0 + _ ≤ List.length _; simp))) (show ¬ (4 ∈ ([5] : List Nat)) by decide) (ALe.pv (whole_le (f := Load.row) (l := l0 :: lds) (by simp)))) (back [0, 1, 2, 3, 4] rfl rfl (by repeat' (first | exact trivial | exact rfl | refine And.intro ?_ ?_)) (by repeat' (first | exact trivial | exact rfl | refine And.intro ?_ ?_)))⟩
        refine ⟨?_⟩
        rintro ⟨k, lds⟩ ⟨f1, f2, f3⟩
        dsimp only at f1 f2 f3
        dsimp only [slP, obP, zeroM, mb, cb4, nilA, List.map, List.length_cons, List.length_nil, List.length_map]
        repeat' (first | (refine app_consm (f := Count.row) (Count.mk ru lds mo pe) rfl ?_) | refine o1 ?_ | refine o2 ?_ | refine k2 ?_ | refine And.intro ?_ ?_ | (refine (?_ : srcLen _ = rowsLen _); rfl) | refine eqv_wrap (by omega) (by omega) ?_ | (refine (?_ : _ ≤ 140737488355328); simp [rowsLen] <;> omega) | (refine (?_ : _ ≤ 9223372036854775807); simp [rowsLen] <;> omega) | (refine (?_ : _ = rowsLen _); simp [rowsLen] <;> omega) | fail)
        exact ⟨(n - 1, k, c0 :: (cts ++ [Count.mk ru lds mo pe])), ⟨by show n - 1 + List.length _ ≤ 2; simp; try omega, f1, all_app (l := c0 :: cts) d3 (show CtQ cls r (Count.mk ru lds mo pe) from ⟨⟨m2, m3.1, by have := m3.2; dsimp only; omega, m4, f2⟩, f3⟩)⟩, (by show n - 1 < n; omega), back [0, 1, 2, 6] rfl rfl (by repeat' (first | exact trivial | exact rfl | refine And.intro ?_ ?_)) ⟨slot_eq rfl (congrArg (vint .i64) (by show _ = ((n - 1 : Nat) : Int); omega)), (by repeat' (first | exact trivial | exact rfl | refine And.intro ?_ ?_))⟩⟩
  · exact later
end Go.Proofs.YtihpjcmloecaaaaGreat.Cw
/-
  Made models: the walk.
-/
namespace Go.Proofs.YtihpjcmloecaaaaGreat.Cw
open Go.Cw Go.Proofs
set_option linter.unusedVariables false
set_option maxRecDepth 100000
set_option maxHeartbeats 30000000
theorem c_dmodelX (t : List Int) (k : Nat) (ht : t.length ≤ 400) (hk : k ≤ t.length) (a b : Int) (ha : 0 ≤ a ∧ a ≤ 5) (hb : 1 ≤ b ∧ b ≤ 4) :
    ACall Tryz.prog 32 [.ptr 0 2 0 0, vint .i64 a, vint .i64 b] [dice t k] (fun r H' => ∃ (m : Model) (k' : Nat), k' ≤ t.length ∧ Made m ∧ (m.pairs.length ≤ 200 ∧ m.counts.length ≤ 2) ∧ r = ag m.cells ∧ H' = [dice t k']) := by
  refine acall_of tok mixed 199 rfl (fn := Tryz.f32) (c := Tryz.f32.body.getD .skip) (by kernel_rfl) (by kernel_rfl) (by kernel_rfl) rfl 1 rfl ?_
  repeat' (first | (refine join_in (a := .region 1 _ _) (fun _ => [(7, .ptr 2 4 0 0)]) (fun x : Nat × Int => [dice t x.1, zeroM, mb nilA nilA nilA x.2]) (fun x => x.1 ≤ t.length ∧ 1 ≤ x.2 ∧ x.2 ≤ 4) ?_) | refine o1 ?_ | refine o2 ?_ | refine k1 ?_ | refine k2 ?_ | refine And.intro ?_ ?_ | exact (by kernel_rfl : drawOk _ _ = true) | refine eqv_wrap (by omega) (by omega) ?_ | (change vcFun _ _ _ _ _; refine call_next 0 rfl (by assumption) (by assumption) (by omega) (by omega) ?_; intro v kq hv1 hv2 hkq) | fail)
  · exact ⟨(kq, 1 + v), ⟨hkq, by dsimp only; omega, by dsimp only; omega⟩, back [0, 1, 2] rfl rfl (by repeat' (first | exact trivial | exact rfl | refine And.intro ?_ ?_)) (by repeat' (first | exact trivial | exact rfl | refine And.intro ?_ ?_))⟩
  refine ⟨?_⟩
  rintro ⟨k, r⟩ ⟨r0, r1, r2⟩
  dsimp only at r0 r1 r2
  rw [forceH_eq]
  refine stageB t ht a b r r1 r2 k r0 ha hb ?_
  refine ⟨?_⟩
  rintro ⟨k, cls⟩ ⟨s1, s2, hcls⟩
  dsimp only at s1 s2 hcls
  rw [forceH_eq]
  refine stageC t ht a b r r1 r2 k cls s1 s2 hcls ?_
  refine ⟨?_⟩
  rintro ⟨k, prs⟩ ⟨p1, p2, p3⟩
  dsimp only at p1 p2 p3
  rw [forceH_eq]
  refine stageD t ht a b r r1 r2 k cls prs s2 hcls p1 ?_
  refine ⟨?_⟩
  rintro ⟨k, cts⟩ ⟨q1, q2, q3⟩
  dsimp only at q1 q2 q3
  dsimp only [zeroM, mb, nilA]
  repeat' (first | refine o1 ?_ | refine o2 ?_ | refine k1 ?_ | refine k2 ?_ | refine k7 ?_ | fail)
  exact ret_obj [0] [dice t k] rfl rfl ⟨rfl, trivial⟩ (r' := ag (Model.cells ⟨cls, prs, cts, r⟩)) rfl ⟨⟨cls, prs, cts, r⟩, k, q1, made_of s2 hcls p2 p3 q2 q3 r1 r2, ⟨p3, q2⟩, rfl, rfl⟩
theorem c_dmodel (t : List Int) (k : Nat) (ht : t.length ≤ 400) (hk : k ≤ t.length) (a b : Int) (ha : 0 ≤ a ∧ a ≤ 5) (hb : 1 ≤ b ∧ b ≤ 4) :
    ACall Tryz.prog 32 [.ptr 0 2 0 0, vint .i64 a, vint .i64 b] [dice t k] (fun r H' => ∃ (m : Model) (k' : Nat), k' ≤ t.length ∧ Made m ∧ r = ag m.cells ∧ H' = [dice t k']) :=
  (c_dmodelX t k ht hk a b ha hb).mono fun r H' ⟨m, k', h1, h2, _, h3⟩ => ⟨m, k', h1, h2, h3⟩
end Go.Proofs.YtihpjcmloecaaaaGreat.Cw
/-
  Symmetry: even models.
-/
namespace Go.Proofs.YtihpjcmloecaaaaGreat.Cw
open Go Go.Cw Go.Proofs
set_option linter.unusedVariables false
set_option maxRecDepth 100000
set_option maxHeartbeats 8000000
structure EvL (l : List Opt) : Prop where
  le : l.length ≤ 7
  one : 1 ≤ l.length
  day : ∀ o ∈ l, o.place.time.day = 0 ∨ o.place.time.day = 1
  ch : ∀ o ∈ l, OptQ 2 o
def evB (c p n : AV) : Option AObj := some ⟨29, 4, false, .box [c, p, n, vint .i64 2]⟩
def ob6 (t r : Int) (c : AV) : Option AObj := some ⟨62, 6, false, .box [vint .i64 1, vint .i64 t, vint .i64 0, vint .i64 1, vint .i64 r, c]⟩
theorem ren_bx0 {d : Nat} {rn : List Nat} {id z : Nat} {rows : List (List PV)} {cs : List AV} : renL d rn (slP id z rows :: cs) = slP (rn.getD id d) z rows :: renL d rn cs := by simp [renL, ren_sl]
theorem ch_one {p : Placed} {n : Int} (h : priceP n) : OptQ 2 ⟨p, [⟨0, n⟩]⟩ := ⟨(ChQ.app (r := 2) (u := 0) ChQ.nil (by decide) h).at_, by show 1 ≤ 4; decide⟩
theorem ch_nil {p : Placed} : OptQ 2 ⟨p, []⟩ := ⟨fun i hi => absurd hi (Nat.not_lt_zero _), by show 0 ≤ 4; decide⟩
structure EvM (m : Model) : Prop where
  ok : modelE m = 0
  laid : Laid m
  cls : ∀ l ∈ m.classes, EvL l
  few : m.classes.length ≤ 5
  prs : m.pairs.length ≤ 200
  cts : m.counts.length ≤ 6
  tabs : ∀ p ∈ m.pairs, p.table.length ≤ 100
theorem even_of {C : List (List Opt)} {P : List Pair} {CS : List Count} (h1 : C.length ≤ 5) (h2 : ∀ l ∈ C, EvL l) (h3 : PrQ C 2 P 1 C.length 0) (h5 : CS.length ≤ 6) (h6 : ∀ c ∈ CS, CtQ C 2 c) : EvM ⟨C, P, CS, 2⟩ := by
  have hl := h3.len
  have hz : sizedP ⟨C, P, CS, 2⟩ := ⟨by dsimp only; omega, fun l hl => by have := (h2 l hl).le; omega, by dsimp only; omega, by dsimp only; omega, by dsimp only; omega, by dsimp only; omega⟩
  refine ⟨mE0 hz ⟨fun l hl o ho => ((h2 l hl).ch o ho).1, h3.at_, fun c hc => (h6 c hc).1⟩, ⟨by dsimp only; omega, by dsimp only; omega, fun l hl o ho => by have := ((h2 l hl).ch o ho).2; omega, fun c hc => by have := (h6 c hc).2; omega⟩, h2, h1, by dsimp only; omega, h5, fun p hp => ?_⟩
  obtain ⟨i, hi⟩ := List.getElem?_of_mem hp
  have hlt : i < P.length := (List.getElem?_eq_some_iff.1 hi).1
  obtain ⟨⟨_, _, _, ⟨a, b, ha, hb, hl⟩, _⟩, _⟩ := h3.at_ i hlt p hi
  have g1 := (h2 a (List.mem_of_getElem? ha)).le
  have g2 := (h2 b (List.mem_of_getElem? hb)).le
  rw [hl]
  exact Nat.le_trans (Nat.mul_le_mul g1 g2) (by omega)
theorem c_even (t : List Int) (k : Nat) (ht : t.length ≤ 400) (hk : k ≤ t.length) (a R : Nat) (ha : a ≤ 5) (hR : R ≤ 3) (hR1 : 1 ≤ R) :
    ACall Tryz.prog 25 [.ptr 0 2 0 0, vint .i64 a, vint .i64 R] [dice t k]
      (fun r H' => ∃ (m : Model) (k' : Nat), k' ≤ t.length ∧ EvM m ∧ r = ag m.cells ∧ H' = [dice t k']) := by
  refine acall_of tok mixed 105 rfl (fn := Tryz.f25) (c := Tryz.f25.body.getD .skip) (by kernel_rfl) (by kernel_rfl) (by kernel_rfl) rfl 1 rfl ?_
  repeat' (first | refine o1 ?_ | refine o2 ?_ | refine k1 ?_ | refine k2 ?_ | refine k4 ?_ | refine And.intro ?_ ?_ | exact (by kernel_rfl : drawOk _ _ = true) | refine eqv_wrap (by omega) (by omega) ?_ | (change vcFun _ _ _ _ _; refine call_next 0 rfl (by assumption) (by assumption) (by omega) (by omega) ?_; intro v kq hv1 hv2 hkq) | fail)
  dsimp only [nilA]
  refine loop_for (fun z : Nat × Nat × List (List Opt) => [(0, .ptr 0 2 0 0), (2, vint .i64 R), (6, .ptr 1 4 0 0), (7, .ptr 2 4 0 0), (8, vint .i64 z.1)])
    (fun z => [dice t z.2.1, zeroM, evB (slP 3 1 (z.2.2.map optsRow)) nilA nilA, obP 51 1 (z.2.2.map optsRow)])
    (fun z => z.1 + z.2.2.length ≤ 5 ∧ z.2.1 ≤ t.length ∧ ∀ l ∈ z.2.2, EvL l) (fun z => z.1) (v.toNat, kq, []) ⟨by simp; omega, hkq, fun n h => absurd h List.not_mem_nil⟩ ?_ ?_
  · exact back [0, 1, 2, 3] rfl rfl (by repeat' (first | exact trivial | exact rfl | refine kept_bx ren_bx0 rfl ?_ | refine And.intro ?_ ?_)) ⟨rfl, rfl, rfl, rfl, slot_eq rfl (congrArg (vint .i64) (by show _ = ((v.toNat : Nat) : Int); omega)), trivial⟩
  rintro ⟨n, k, C⟩ ⟨hn, hk, hC⟩
  dsimp only at hn hk hC ⊢
  dsimp only [evB, zeroM]
  rcases Nat.eq_zero_or_pos n with rfl | hn1
  · refine forceH_in ?_
    refine ghost_seq (Γ' := [(0, .ptr 0 2 0 0), (2, vint .i64 R), (6, .ptr 1 4 0 0), (7, .ptr 2 4 0 0), (8, vint .i64 (0 : Nat))]) (H' := [dice t k, zeroM, evB (.pv (.sl 1 (C.map optsRow))) nilA nilA]) (Ghost.shut_sl (i := 2) (c := 0) (id := 3) rfl rfl rfl (by decide) fun H' hl h2 hH => back [0, 1, 2] rfl rfl ⟨hH 0 (by decide) (by decide), hH 1 (by decide) (by decide), h2, trivial⟩ (by repeat' (first | exact trivial | exact rfl | refine And.intro ?_ ?_))) ?_
    dsimp only [evB, zeroM]
    repeat' (first | refine o1 ?_ | refine o2 ?_ | refine k1 ?_ | refine k2 ?_ | refine k3 ?_ | refine k4 ?_ | refine k8 ?_ | refine And.intro ?_ ?_ | (intro h; first | exact Bool.noConfusion h | exact nz _ h | exact nl h | (simp at h; done) | (simp at h; first | (exfalso; omega) | skip) | skip) | fail)
    refine loop_for (fun z : Nat × Nat × List Pair => [(0, .ptr 0 2 0 0), (2, vint .i64 R), (6, .ptr 1 4 0 0), (7, .ptr 2 4 0 0), (14, vint .i64 z.1)])
      (fun z => [dice t z.2.1, zeroM, evB (.pv (.sl 1 (C.map optsRow))) (slP 3 4 (z.2.2.map Pair.row)) nilA, obP 72 4 (z.2.2.map Pair.row)])
      (fun z => z.1 ≤ C.length ∧ z.2.1 ≤ t.length ∧ PrQ C 2 z.2.2 1 z.1 0) (fun z => C.length - z.1) (0, k, []) ⟨Nat.zero_le _, hk, ⟨fun i h => absurd h (Nat.not_lt_zero _), fun c h => absurd h List.not_mem_nil, by show 0 ≤ _; exact Nat.zero_le _⟩⟩ ?_ ?_
    · exact back [0, 1, 2, 3] rfl rfl (by repeat' (first | exact trivial | exact rfl | refine kept_bx ren_bx1 rfl ?_ | refine And.intro ?_ ?_)) (by repeat' (first | exact trivial | exact rfl | refine And.intro ?_ ?_))
    rintro ⟨i, k, P⟩ ⟨hi, hk, hP⟩
    dsimp only at hi hk hP ⊢
    dsimp only [evB, zeroM]
    rcases Nat.lt_or_ge i C.length with hil | hig
    · repeat' (first | (refine fh_ob ?_) | refine o1 ?_ | refine o2 ?_ | refine k1 ?_ | refine k2 ?_ | refine k3 ?_ | refine k4 ?_ | refine k6 ?_ | refine And.intro ?_ ?_ | (intro h; first | exact Bool.noConfusion h | exact nz _ h | exact nl h | (simp at h; done) | (simp at h; first | (exfalso; omega) | skip) | skip) | refine eqv_len_map ?_ | refine eqv_wrap (by omega) (by omega) ?_ | fail)
      refine loop_for (fun z : Nat × Nat × List Pair => [(0, .ptr 0 2 0 0), (2, vint .i64 R), (6, .ptr 1 4 0 0), (7, .ptr 2 4 0 0), (14, vint .i64 i), (15, vint .i64 z.1)])
        (fun z => [dice t z.2.1, zeroM, evB (.pv (.sl 1 (C.map optsRow))) (slP 3 4 (z.2.2.map Pair.row)) nilA, obP 72 4 (z.2.2.map Pair.row)])
        (fun z => i < z.1 ∧ z.1 ≤ C.length ∧ z.2.1 ≤ t.length ∧ PrQ C 2 z.2.2 1 i z.1) (fun z => C.length - z.1) (i + 1, k, P) ⟨Nat.lt_succ_self _, hil, hk, hP.toK⟩ ?_ ?_
      · refine back [0, 1, 2, 3] rfl rfl ?_ ?_
        · repeat' (first | exact trivial | exact rfl | refine kept_ob rfl ?_ | refine kept_bx ren_bx1 rfl ?_ | refine And.intro ?_ ?_)
        · repeat' (first | exact trivial | exact rfl | refine And.intro ?_ ?_)
      rintro ⟨j, k, P⟩ ⟨hij, hj, hk, hj3⟩
      dsimp only at hij hj hk hj3 ⊢
      dsimp only [evB, zeroM]
      rcases Nat.lt_or_ge j C.length with hjl2 | hjg
      · rcases P with _ | ⟨p0, P⟩
        · skip
          have hjl := hj3.len
          skip
          obtain ⟨x, hx⟩ := getE hil
          obtain ⟨y, hy⟩ := getE hjl2
          have hX := hC x (List.mem_of_getElem? hx)
          have hY := hC y (List.mem_of_getElem? hy)
          have hb1 : ((List.map Pair.row (([] : List Pair))).length + 1) * 48 ≤ 140737488355328 := by rw [List.length_map]; omega
          have hb2 : (List.map Pair.row (([] : List Pair))).length + 1 ≤ 9223372036854775807 := by rw [List.length_map]; omega
          obtain ⟨TT, k', p1, p2, p3, hev⟩ := c_evenPairN t k ht hk C i j x y hx hy hX.le hY.le hX.day hY.day
          repeat' (first | (refine fh_ob ?_) | ((change vcFunD _ _ _ _ _; refine callD_obj [0] [dice t k] [.ptr 0 2 0 0, .agg [.pv (.sl 1 (C.map optsRow)), nilA, nilA, vint .i64 2], vint .i64 i, vint .i64 j] rfl ⟨rfl, trivial⟩ rfl hev rfl ?_)) | ((refine o_appD (rows := List.map Pair.row (([] : List Pair))) rfl rfl rfl rfl rfl rfl rfl rfl rfl rfl rfl hb1 hb2 ?_)) | refine o1 ?_ | refine o2 ?_ | refine k1 ?_ | refine k2 ?_ | refine k3 ?_ | refine k4 ?_ | refine k6 ?_ | refine And.intro ?_ ?_ | refine o3 ?_ | refine o4 ?_ | (intro h; first | exact Bool.noConfusion h | exact nz _ h | exact nl h | (simp at h; done) | (simp at h; first | (exfalso; omega) | skip) | skip) | exact (by kernel_rfl : drawOk _ _ = true) | refine eqv_len_map ?_ | refine eqv_wrap (by omega) (by omega) ?_ | fail)
          all_goals
            refine ⟨(j + 1, k', ([] : List Pair) ++ [⟨i, j, 1, TT⟩]), ⟨by dsimp only; omega, by dsimp only; omega, p1, hj3.app (pair_made hx hy hij (by decide) p2 p3)⟩, by dsimp only; omega, ?_⟩
            dsimp only
            rw [map_snoc, sl_app, ob_app]
            refine back [0, 1, 2, 5] rfl rfl ?_ ?_
            · repeat' (first | exact trivial | exact rfl | refine And.intro ?_ ?_)
            · repeat' (first | exact trivial | exact rfl | refine And.intro ?_ ?_)
        · skip
          have hjl := hj3.len
          skip
          obtain ⟨x, hx⟩ := getE hil
          obtain ⟨y, hy⟩ := getE hjl2
          have hX := hC x (List.mem_of_getElem? hx)
          have hY := hC y (List.mem_of_getElem? hy)
          have hb1 : ((List.map Pair.row (p0 :: P)).length + 1) * 48 ≤ 140737488355328 := by rw [List.length_map]; omega
          have hb2 : (List.map Pair.row (p0 :: P)).length + 1 ≤ 9223372036854775807 := by rw [List.length_map]; omega
          obtain ⟨TT, k', p1, p2, p3, hev⟩ := c_evenPairC t k ht hk C ((List.map Pair.row P).length + 1) (List.map Pair.row (p0 :: P)) i j x y hx hy hX.le hY.le hX.day hY.day
          repeat' (first | (refine fh_ob ?_) | ((change vcFunD _ _ _ _ _; refine callD_obj [0, 3] [dice t k, some ⟨72, 4, false, .p (List.map Pair.row (p0 :: P))⟩] [.ptr 0 2 0 0, .agg [.pv (.sl 1 (C.map optsRow)), .ms 1 4 0 ((List.map Pair.row P).length + 1), nilA, vint .i64 2], vint .i64 i, vint .i64 j] rfl ⟨rfl, rfl, trivial⟩ rfl hev rfl ?_)) | ((refine o_appD (rows := List.map Pair.row (p0 :: P)) rfl rfl rfl rfl rfl rfl rfl rfl rfl rfl rfl hb1 hb2 ?_)) | refine o1 ?_ | refine o2 ?_ | refine k1 ?_ | refine k2 ?_ | refine k3 ?_ | refine k4 ?_ | refine k6 ?_ | refine And.intro ?_ ?_ | refine o3 ?_ | refine o4 ?_ | (intro h; first | exact Bool.noConfusion h | exact nz _ h | exact nl h | (simp at h; done) | (simp at h; first | (exfalso; omega) | skip) | skip) | exact (by kernel_rfl : drawOk _ _ = true) | refine eqv_len_map ?_ | refine eqv_wrap (by omega) (by omega) ?_ | fail)
          all_goals
            refine ⟨(j + 1, k', (p0 :: P) ++ [⟨i, j, 1, TT⟩]), ⟨by dsimp only; omega, by dsimp only; omega, p1, hj3.app (pair_made hx hy hij (by decide) p2 p3)⟩, by dsimp only; omega, ?_⟩
            dsimp only
            rw [map_snoc, sl_app, ob_app]
            refine back [0, 1, 2, 5] rfl rfl ?_ ?_
            · repeat' (first | exact trivial | exact rfl | refine And.intro ?_ ?_)
            · repeat' (first | exact trivial | exact rfl | refine And.intro ?_ ?_)
      · obtain rfl : j = C.length := by omega
        repeat' (first | (refine fh_ob ?_) | refine o1 ?_ | refine o2 ?_ | refine k1 ?_ | refine k2 ?_ | refine k3 ?_ | refine k8 ?_ | refine And.intro ?_ ?_ | (intro h; first | exact Bool.noConfusion h | exact nz _ h | exact nl h | (simp at h; done) | (simp at h; first | (exfalso; omega) | skip) | skip) | refine eqv_len_map ?_ | refine eqv_wrap (by omega) (by omega) ?_ | fail)
        refine ⟨(i + 1, k, P), ⟨by dsimp only; omega, hk, hj3.toI (by omega)⟩, by dsimp only; omega, ?_⟩
        dsimp only
        refine back [0, 1, 2, 3] rfl rfl ?_ ?_
        · repeat' (first | exact trivial | exact rfl | refine kept_ob rfl ?_ | refine kept_bx ren_bx1 rfl ?_ | refine And.intro ?_ ?_)
        · repeat' (first | exact trivial | exact rfl | refine And.intro ?_ ?_)
    · obtain rfl : i = C.length := by omega
      refine forceH_in ?_
      refine ghost_seq (Γ' := [(0, .ptr 0 2 0 0), (2, vint .i64 R), (6, .ptr 1 4 0 0), (7, .ptr 2 4 0 0), (14, vint .i64 C.length)]) (H' := [dice t k, zeroM, evB (.pv (.sl 1 (C.map optsRow))) (.pv (.sl 4 (P.map Pair.row))) nilA]) (Ghost.shut_sl (i := 2) (c := 1) (id := 3) rfl rfl rfl (by decide) fun H' hl h2 hH => back [0, 1, 2] rfl rfl ⟨hH 0 (by decide) (by decide), hH 1 (by decide) (by decide), h2, trivial⟩ (by repeat' (first | exact trivial | exact rfl | refine And.intro ?_ ?_))) ?_
      refine ghost_seq (Γ' := [(0, .ptr 0 2 0 0), (2, vint .i64 R), (6, .ptr 1 4 0 0), (7, .ptr 2 4 0 0), (14, vint .i64 C.length)]) (H' := [dice t k, zeroM, evB (.pv (.sl 1 (C.map optsRow))) (.pv (.sl 4 (P.map Pair.row))) (.pv (.sl 4 []))]) (Ghost.trans (Ghost.shut (i := 2) (c := 2) (x := .pv (.val (.slice none 0 0))) rfl rfl rfl (by repeat' (first | trivial)) (show ¬ (2 ∈ ([] : List Nat)) by decide) (ALe.pv (PLe.nil (z := 4)))) (back [0, 1, 2] rfl rfl (by repeat' (first | exact trivial | exact rfl | refine And.intro ?_ ?_)) (by repeat' (first | exact trivial | exact rfl | refine And.intro ?_ ?_)))) ?_
      dsimp only [evB, zeroM]
      repeat' (first | ((change vcFun _ _ _ _ _; refine call_one (i := 0) rfl (fun _ _ => rfl) [.ptr 0 2 0 0, .agg [.pv (.sl 1 (C.map optsRow)), .pv (.sl 4 (P.map Pair.row)), .pv (.sl 4 []), vint .i64 2], vint .i64 R] rfl (c_evenCounts t kq ht hkq C (P.map Pair.row) R hR (by omega) fun l hl => (hC l hl).le) ?_; rintro r H' ⟨CS, kz, c1, c2, c3, rfl, rfl⟩; refine ⟨_, rfl, fun _ _ => rfl, fun _ _ => rfl, ?_⟩)) | refine o1 ?_ | refine o2 ?_ | refine k1 ?_ | refine k2 ?_ | refine k3 ?_ | refine k6 ?_ | refine k7 ?_ | refine k8 ?_ | refine And.intro ?_ ?_ | (intro h; first | exact Bool.noConfusion h | exact nz _ h | exact nl h | (simp at h; done) | (simp at h; first | (exfalso; omega) | skip) | skip) | refine eqv_len_map ?_ | (change vcFun _ _ _ _ _; refine call_one2 0 rfl (by assumption) (by assumption) (by omega) (by omega) ?_; intro bq kq hkq) | fail)
      all_goals try skip
      · exact ret_obj [0] [dice t kz] rfl rfl ⟨rfl, trivial⟩ (r' := ag (Model.cells ⟨C, P, CS, 2⟩)) rfl ⟨⟨C, P, CS, 2⟩, kz, c1, even_of (by omega) hC hP c2 c3, rfl, rfl⟩
      · exact ret_obj [0] [dice t kq] rfl rfl ⟨rfl, trivial⟩ (r' := ag (Model.cells ⟨C, P, [], 2⟩)) rfl ⟨⟨C, P, [], 2⟩, kq, hkq, even_of (by omega) hC hP (by decide) (fun c h => absurd h List.not_mem_nil), rfl, rfl⟩
  repeat' (first | (refine fh_ob ?_) | refine o1 ?_ | refine o2 ?_ | refine k1 ?_ | refine k2 ?_ | refine k3 ?_ | refine k4 ?_ | refine k6 ?_ | refine And.intro ?_ ?_ | (intro h; first | exact Bool.noConfusion h | exact nz _ h | exact nl h | (simp at h; done) | (simp at h; first | (exfalso; omega) | skip) | skip) | fail)
  refine loop_for (fun z : Nat × Nat × List Opt => [(0, .ptr 0 2 0 0), (2, vint .i64 R), (6, .ptr 1 4 0 0), (7, .ptr 2 4 0 0), (8, vint .i64 n), (9, slP 4 6 (z.2.2.map Opt.row)), (10, vint .i64 z.1)])
    (fun z => [dice t z.2.1, zeroM, evB (slP 3 1 (C.map optsRow)) nilA nilA, obP 51 1 (C.map optsRow), obP 62 6 (z.2.2.map Opt.row)])
    (fun z => z.1 ≤ 2 ∧ z.2.1 ≤ t.length ∧ z.2.2.length ≤ z.1 * 3 ∧ (1 ≤ z.1 → 1 ≤ z.2.2.length) ∧ (∀ o ∈ z.2.2, o.place.time.day = 0 ∨ o.place.time.day = 1) ∧ ∀ o ∈ z.2.2, OptQ 2 o) (fun z => 2 - z.1) (0, k, []) ⟨Nat.zero_le _, hk, Nat.le_refl _, fun h => by dsimp only at h; omega, fun o h => absurd h List.not_mem_nil, fun o h => absurd h List.not_mem_nil⟩ ?_ ?_
  · exact back [0, 1, 2, 3, 4] rfl rfl (by repeat' (first | exact trivial | exact rfl | refine kept_ob rfl ?_ | refine kept_bx ren_bx0 rfl ?_ | refine And.intro ?_ ?_)) (by repeat' (first | exact trivial | exact rfl | refine And.intro ?_ ?_))
  rintro ⟨tt, k, l⟩ ⟨htt, hk, hll, hl1, hld, hlc⟩
  dsimp only at htt hk hll hl1 hld hlc ⊢
  dsimp only [evB, zeroM]
  rcases Nat.lt_or_ge tt 2 with htl | htg
  · repeat' (first | ((change vcFun _ _ _ _ _; refine call_mcost 0 rfl (by assumption) (by assumption) ?_; intro cn kc hcn hkc)) | (refine fh_ob ?_) | refine o1 ?_ | refine o2 ?_ | refine k1 ?_ | refine k2 ?_ | refine k3 ?_ | refine k4 ?_ | refine k6 ?_ | refine k8 ?_ | refine And.intro ?_ ?_ | (intro h; first | exact Bool.noConfusion h | exact nz _ h | exact nl h | (simp at h; done) | (simp at h; first | (exfalso; omega) | skip) | skip) | refine eqv_wrap (by omega) (by omega) ?_ | (change vcFun _ _ _ _ _; refine call_one2 0 rfl (by assumption) (by assumption) (by omega) (by omega) ?_; intro bq kq hkq) | fail)
    case' refine_1 => skip
    all_goals first
      | (exfalso; omega)
      | (refine ⟨(tt + 1, kq, l), ⟨by dsimp only; omega, hkq, by dsimp only; omega, fun _ => by dsimp only; exact hl1 (by omega), hld, hlc⟩, by dsimp only; omega, ?_⟩
         refine back [0, 1, 2, 3, 4] rfl rfl ?_ ?_
         · repeat' (first | exact trivial | exact rfl | refine kept_ob rfl ?_ | refine kept_bx ren_bx0 rfl ?_ | refine And.intro ?_ ?_)
         · repeat' (first | exact trivial | exact rfl | exact ren_get rfl | refine And.intro ?_ ?_))
      | skip
    all_goals
      refine loop_for (fun z : Nat × List Opt => [(0, .ptr 0 2 0 0), (2, vint .i64 R), (6, .ptr 1 4 0 0), (7, .ptr 2 4 0 0), (8, vint .i64 n), (9, slP 4 6 (z.2.map Opt.row)), (10, vint .i64 tt), (11, vint .i64 cn), (12, vint .i64 z.1)])
        (fun z => [dice t kc, zeroM, evB (slP 3 1 (C.map optsRow)) nilA nilA, obP 51 1 (C.map optsRow), obP 62 6 (z.2.map Opt.row)])
        (fun z => z.1 ≤ R ∧ z.2.length ≤ tt * 3 + z.1 ∧ (1 ≤ tt + z.1 → 1 ≤ z.2.length) ∧ (∀ o ∈ z.2, o.place.time.day = 0 ∨ o.place.time.day = 1) ∧ ∀ o ∈ z.2, OptQ 2 o) (fun z => R - z.1) (0, l) ⟨Nat.zero_le _, hll, hl1, hld, hlc⟩ ?_ ?_
      · refine back [0, 1, 2, 3, 4] rfl rfl ?_ ?_
        · repeat' (first | exact trivial | exact rfl | refine kept_ob rfl ?_ | refine kept_bx ren_bx0 rfl ?_ | refine And.intro ?_ ?_)
        · repeat' (first | exact trivial | exact rfl | exact ren_get rfl | refine And.intro ?_ ?_)
      rintro ⟨r, l⟩ ⟨hr, hll, hl1, hld, hlc⟩
      dsimp only at hr hll hl1 hld hlc ⊢
      dsimp only [evB, zeroM]
      rcases Nat.lt_or_ge r R with hrl | hrg
      · have hb1 : ((l.map Opt.row).length + 1) * 64 ≤ 140737488355328 := by rw [List.length_map]; omega
        have hb2 : (l.map Opt.row).length + 1 ≤ 9223372036854775807 := by rw [List.length_map]; omega
        repeat' (first | (refine fh_ob ?_) | (refine join_in (a := .seq (.region 15 _ _) _) (fun _ => []) (fun x : List Charge => [dice t kc, zeroM, evB (slP 3 1 (C.map optsRow)) nilA nilA, obP 51 1 (C.map optsRow), obP 62 6 (l.map Opt.row), ob6 tt r (.pv (.sl 2 (x.map Charge.row)))]) (fun x => OptQ 2 ⟨⟨⟨1, tt, 0, 1⟩, r⟩, x⟩) ?_) | refine o1 ?_ | refine o2 ?_ | refine k1 ?_ | refine k2 ?_ | refine k3 ?_ | refine k4 ?_ | refine k6 ?_ | refine And.intro ?_ ?_ | (intro h; first | exact Bool.noConfusion h | exact nz _ h | exact nl h | (simp at h; done) | (simp at h; first | (exfalso; omega) | skip) | skip) | exact (by kernel_rfl : drawOk _ _ = true) | fail)
        · refine ⟨[⟨0, cn⟩], ch_one (hcn.elim (fun h => by omega) id), Ghost.trans (Ghost.shut (i := 5) (c := 5) (x := .ms 6 2 0 1) rfl rfl rfl (by repeat' (first | (show 0 + _ ≤ List.length _; simp))) (show ¬ (5 ∈ ([6] : List Nat)) by decide) (ALe.pv (whole_le (f := Charge.row) (l := [⟨0, cn⟩]) (by simp)))) (back [0, 1, 2, 3, 4, 5] rfl rfl ?_ ?_)⟩
          · repeat' (first | exact trivial | exact rfl | refine kept_ob rfl ?_ | refine kept_bx ren_bx0 rfl ?_ | refine And.intro ?_ ?_)
          · repeat' (first | exact trivial | exact rfl | exact ren_get rfl | refine And.intro ?_ ?_)
        · refine ⟨[], ch_nil, Ghost.trans (Ghost.shut (i := 5) (c := 5) (x := .pv (.val (.slice none 0 0))) rfl rfl rfl (by repeat' (first | trivial)) (show ¬ (5 ∈ ([] : List Nat)) by decide) (ALe.pv (PLe.nil (z := 2)))) (back [0, 1, 2, 3, 4, 5] rfl rfl ?_ ?_)⟩
          · repeat' (first | exact trivial | exact rfl | refine kept_ob rfl ?_ | refine kept_bx ren_bx0 rfl ?_ | refine And.intro ?_ ?_)
          · repeat' (first | exact trivial | exact rfl | exact ren_get rfl | refine And.intro ?_ ?_)
        refine ⟨?_⟩
        intro x hx
        dsimp only [zeroM, evB, ob6]
        repeat' (first | (refine fv_sl ?_) | (refine fh_ob ?_) | ((refine o_app rfl rfl rfl rfl rfl rfl rfl rfl rfl rfl rfl hb1 hb2 ?_)) | refine o1 ?_ | refine o2 ?_ | refine k2 ?_ | refine eqv_wrap (by omega) (by omega) ?_ | fail)
        refine ⟨(r + 1, l ++ [⟨⟨⟨1, tt, 0, 1⟩, r⟩, x⟩]), ⟨by dsimp only; omega, by dsimp only; rw [List.length_append]; simp only [List.length_cons, List.length_nil]; omega, fun _ => by dsimp only; rw [List.length_append]; simp only [List.length_cons, List.length_nil]; omega, all_app (p := fun o : Opt => o.place.time.day = 0 ∨ o.place.time.day = 1) hld (by dsimp only; omega), all_app hlc hx⟩, by dsimp only; omega, ?_⟩
        dsimp only
        rw [map_snoc, sl_app, ob_app]
        refine back [0, 1, 2, 3, 7] rfl rfl ?_ ?_
        · repeat' (first | exact trivial | exact rfl | refine kept_ob rfl ?_ | refine kept_bx ren_bx0 rfl ?_ | refine And.intro ?_ ?_)
        · repeat' (first | exact trivial | exact rfl | refine And.intro ?_ ?_)
      · obtain rfl : r = R := by omega
        repeat' (first | (refine fh_ob ?_) | refine o1 ?_ | refine o2 ?_ | refine k1 ?_ | refine k2 ?_ | refine k3 ?_ | refine k8 ?_ | refine And.intro ?_ ?_ | (intro h; first | exact Bool.noConfusion h | exact nz _ h | exact nl h | (simp at h; done) | (simp at h; first | (exfalso; omega) | skip) | skip) | refine eqv_wrap (by omega) (by omega) ?_ | fail)
        refine ⟨(tt + 1, kc, l), ⟨by dsimp only; omega, hkc, by dsimp only; omega, fun _ => by dsimp only; exact hl1 (by omega), hld, hlc⟩, by dsimp only; omega, ?_⟩
        dsimp only
        refine back [0, 1, 2, 3, 4] rfl rfl ?_ ?_
        · repeat' (first | exact trivial | exact rfl | refine kept_ob rfl ?_ | refine kept_bx ren_bx0 rfl ?_ | refine And.intro ?_ ?_)
        · repeat' (first | exact trivial | exact rfl | exact ren_get rfl | refine And.intro ?_ ?_)
  obtain rfl : tt = 2 := by omega
  have hb1 : ((l.map Opt.row).length + 1) * 64 ≤ 140737488355328 := by rw [List.length_map]; omega
  have hb2 : (l.map Opt.row).length + 1 ≤ 9223372036854775807 := by rw [List.length_map]; omega
  have hb3 : ((C.map optsRow).length + 1) * 24 ≤ 140737488355328 := by rw [List.length_map]; omega
  have hb4 : (C.map optsRow).length + 1 ≤ 9223372036854775807 := by rw [List.length_map]; omega
  repeat' (first | (refine fv_sl ?_) | (refine fh_ob ?_) | (refine join_in (a := .seq (.region 18 _ _) _) (fun x : Nat × List Opt => [(9, .pv (.sl 6 (x.2.map Opt.row)))]) (fun x => [dice t x.1, zeroM, evB (slP 3 1 (C.map optsRow)) nilA nilA, obP 51 1 (C.map optsRow)]) (fun x => x.1 ≤ t.length ∧ EvL x.2) ?_) | ((refine o_app rfl rfl rfl rfl rfl rfl rfl rfl rfl rfl rfl hb1 hb2 ?_)) | refine o1 ?_ | refine o2 ?_ | refine k1 ?_ | refine k2 ?_ | refine k3 ?_ | refine k6 ?_ | refine k8 ?_ | refine And.intro ?_ ?_ | (intro h; first | exact Bool.noConfusion h | exact nz _ h | exact nl h | (simp at h; done) | (simp at h; first | (exfalso; omega) | skip) | skip) | (change vcFun _ _ _ _ _; refine call_one2 0 rfl (by assumption) (by assumption) (by omega) (by omega) ?_; intro bq kq hkq) | fail)
  · refine ⟨(kq, l ++ [⟨⟨⟨2, 0, 0, 1⟩, -1⟩, []⟩]), ⟨hkq, ⟨by dsimp only; rw [List.length_append]; simp only [List.length_cons, List.length_nil]; omega, by dsimp only; rw [List.length_append]; simp only [List.length_cons, List.length_nil]; omega, all_app (p := fun o : Opt => o.place.time.day = 0 ∨ o.place.time.day = 1) hld (.inl rfl), all_app hlc ch_nil⟩⟩, Ghost.sl (s := 9) (id := 6) (rows := l.map Opt.row ++ [[ei 2, ei 0, ei 0, ei 1, ei (-1), .val (.slice none 0 0)]]) (by rw [sl_app]; rfl) (by rw [ob_app]; rfl) fun H' hl hH => Ghost.trans (Ghost.weak (s := 9) (y := .pv (.sl 6 (l.map Opt.row ++ [Opt.row ⟨⟨⟨2, 0, 0, 1⟩, -1⟩, []⟩]))) rfl (ALe.pv (PLe.sl (PLeLL.app PLeLL.refl ⟨⟨PLe.refl, PLe.refl, PLe.refl, PLe.refl, PLe.refl, PLe.nil, trivial⟩, trivial⟩)))) ?_⟩
    dsimp only
    rw [map_snoc]
    refine back [0, 1, 2, 3] rfl rfl ⟨hH 0 (by decide), hH 1 (by decide), kept_bx ren_bx0 (hH 2 (by decide)) (kept_ob (hH 3 (by decide)) trivial)⟩ ?_
    repeat' (first | exact trivial | exact rfl | refine And.intro ?_ ?_)
  · refine ⟨(kq, l), ⟨hkq, ⟨by dsimp only; omega, by dsimp only; exact hl1 (by omega), hld, hlc⟩⟩, Ghost.sl (s := 9) (id := 4) (rows := l.map Opt.row) rfl rfl fun H' hl hH => ?_⟩
    refine back [0, 1, 2, 3] rfl rfl ⟨hH 0 (by decide), hH 1 (by decide), kept_bx ren_bx0 (hH 2 (by decide)) (kept_ob (hH 3 (by decide)) trivial)⟩ ?_
    repeat' (first | exact trivial | exact rfl | refine And.intro ?_ ?_)
  refine ⟨?_⟩
  rintro ⟨k, l⟩ ⟨hk, hl⟩
  dsimp only at hk hl ⊢
  dsimp only [zeroM, evB]
  repeat' (first | (refine fv_sl ?_) | (refine fh_ob ?_) | ((refine o_app rfl rfl rfl rfl rfl rfl rfl rfl rfl rfl rfl hb3 hb4 ?_)) | refine o1 ?_ | refine o2 ?_ | refine k2 ?_ | refine eqv_wrap (by omega) (by omega) ?_ | fail)
  refine ⟨(n - 1, k, C ++ [l]), ⟨by dsimp only; rw [List.length_append]; simp only [List.length_cons, List.length_nil]; omega, hk, all_app hC hl⟩, by dsimp only; omega, ?_⟩
  dsimp only
  rw [map_snoc, sl_app, ob_app]
  refine back [0, 1, 2, 5] rfl rfl ?_ ⟨rfl, rfl, rfl, rfl, slot_eq rfl (congrArg (vint .i64) (by show _ = ((n - 1 : Nat) : Int); omega)), trivial⟩
  repeat' (first | exact trivial | exact rfl | refine And.intro ?_ ?_)
end Go.Proofs.YtihpjcmloecaaaaGreat.Cw
/-
  Contracts: the places of a plan.
-/
namespace Go.Proofs.YtihpjcmloecaaaaGreat.Cw
open Go.Cw Go.Proofs
set_option linter.unusedVariables false
set_option maxRecDepth 100000
set_option maxHeartbeats 1600000
def plc (m : Model) (plan : List Int) (i : Nat) : Option Placed := match m.classes[i]?, plan[i]? with
  | some l, some o => (l[o.toNat]?).map Opt.place
  | _, _ => none
def placesTo (m : Model) (plan : List Int) (n : Nat) : List Placed := (List.range n).filterMap (plc m plan)
noncomputable def placesV (m : Model) (plan : List Int) : List Placed := if completeE m plan = 0 then placesTo m plan plan.length else []
def mbox (m : Model) : Option AObj := some ⟨29, 4, false, .box [.pv (.sl 1 (m.classes.map optsRow)), .pv (.sl 4 (m.pairs.map Pair.row)), .pv (.sl 4 (m.counts.map Count.row)), vint .i64 m.rules]⟩
end Go.Proofs.YtihpjcmloecaaaaGreat.Cw
/-
  Made plans.
-/
namespace Go.Proofs.YtihpjcmloecaaaaGreat.Cw
open Go.Cw Go.Proofs
set_option linter.unusedVariables false
set_option maxRecDepth 100000
set_option maxHeartbeats 1600000
structure PlQ (m : Model) (full : Bool) (l : List Int) (n : Nat) : Prop where
  len : l.length = n
  at_ : ∀ i, i < n → ∀ o, l[i]? = some o → ∀ c, m.classes[i]? = some c → (full = true → 0 ≤ o) ∧ o < c.length
end Go.Proofs.YtihpjcmloecaaaaGreat.Cw
/-
  Odd models.
-/
namespace Go.Proofs.YtihpjcmloecaaaaGreat.Cw
open Go.Cw Go.Proofs
set_option linter.unusedVariables false
set_option maxRecDepth 100000
set_option maxHeartbeats 30000000
theorem app_wholem {α : Type} {f : α → List PV} {e : α} {l : List α} {K : Go.Cw.Rows → Nat → Prop} (h : K (.p (f e :: l.map f)) ((l.map f).length + 1)) : eqv (Go.Cw.Rows.p (List.map f (e :: l))) fun rr => eqv (rowsLen rr) (K rr) :=
  ⟨_, rfl, _, by simp [rowsLen], h⟩
theorem app_mfirst {c : List AV} {K : Go.Cw.Rows → Nat → Prop} (h : K (.m [c]) 1) : eqv (Go.Cw.Rows.m (List.take 1 (List.drop 0 [c]))) fun rr => eqv (rowsLen rr) (K rr) :=
  ⟨_, rfl, _, rfl, h⟩
theorem app_mlast {r1 : List PV} {xs : List (List PV)} {r : List AV} {K : Go.Cw.Rows → Nat → Prop} (h : K (.m ((r1 :: xs).map pvs ++ [r])) (xs.length + 2)) : eqv (Go.Cw.Rows.m ((List.drop 0 (r1 :: xs)).map pvs ++ List.take 1 (List.drop 0 [r]))) fun rr => eqv (rowsLen rr) (K rr) :=
  ⟨_, rfl, _, by simp [rowsLen], h⟩
theorem lit_idx {v : Int} {n : Nat} {K : Nat → Prop} (h1 : 0 ≤ v) (h2 : v < n) (h : ∀ k, k < n → K (0 + k)) : ∃ k : Nat, v = ↑k ∧ k < n ∧ eqv (0 + k) K :=
  ⟨v.toNat, by omega, by omega, _, rfl, h _ (by omega)⟩
theorem lit4_load {α : Type} {a b c d : α} {k n : Nat} {C : α → Prop} (hn : n = 4) (hk : k < n) (ha : C a) (hb : C b) (hc : C c) (hd : C d) : ∃ r, [a, b, c, d][0 + k]? = some r ∧ C r := by
  subst hn
  match k, hk with
  | 0, _ => exact ⟨a, rfl, ha⟩
  | 1, _ => exact ⟨b, rfl, hb⟩
  | 2, _ => exact ⟨c, rfl, hc⟩
  | 3, _ => exact ⟨d, rfl, hd⟩
theorem row0_load {α : Type} {r : α} {l : List α} {C : α → Prop} (h : C r) : ∃ x, (r :: l)[0]? = some x ∧ C x := ⟨_, rfl, h⟩
theorem app_lit {r : List PV} {l : List (List PV)} {K : Go.Cw.Rows → Nat → Prop} (h : K (.p (r :: l)) (l.length + 1)) : eqv (Go.Cw.Rows.p (List.drop 0 [r] ++ l)) fun rr => eqv (rowsLen rr) (K rr) := ⟨_, rfl, _, rfl, h⟩
theorem set0p {r x : List PV} {l : List (List PV)} {K : List (List PV) → Prop} (h : K (x :: l)) : eqv ((r :: l).set 0 x) K := ⟨_, rfl, h⟩
theorem set0m {r : List PV} {x : List AV} {l : List (List PV)} {K : List (List AV) → Prop} (h : K (x :: l.map pvs)) : eqv ((List.map pvs (r :: l)).set 0 x) K := ⟨_, rfl, h⟩
theorem okL1 {α : Type} {x : α} {P : α → Prop} (h : P x) : ∀ r ∈ List.take 1 (List.drop 0 [x]), P r := fun r hr => by
  have : r ∈ [x] := hr
  rw [List.mem_singleton] at this; subst this; exact h
def YY {α : Type} (_ : α) : Prop := True
def OptL (o : Opt) : Prop := o.charges.length ≤ 9223372036854775807
def ClsL (l : List Opt) : Prop := ∀ o ∈ l, OptL o
def CntL (c : Count) : Prop := c.loads.length ≤ 9223372036854775807
def eI (n : Int) : List PV := [ei n]
section
variable {a b c d e : Int} {p : PV} {n : Nat}
theorem row_cls (h : SlOf 6 Opt.row OptL 1000 p) : RowOf optsRow ClsL [p] := by
  obtain ⟨l, _, h1, h2⟩ := h
  exact ⟨l, h1, h2, trivial⟩
theorem row_opt (h : SlOf 2 Charge.row YY 1000 p) : RowOf Opt.row OptL [ei a, ei b, ei c, ei d, ei e, p] := by
  obtain ⟨l, h0, h1, h2⟩ := h
  exact ⟨⟨⟨⟨a, b, c, d⟩, e⟩, l⟩, by show l.length ≤ _; omega, PLe.refl, PLe.refl, PLe.refl, PLe.refl, PLe.refl, h2, trivial⟩
theorem row_charge : RowOf Charge.row YY [ei a, ei b] := ⟨⟨a, b⟩, trivial, PLeL.refl⟩
theorem row_pair (h : SlOf 1 eI YY n p) : RowOf Pair.row YY [ei a, ei b, ei c, p] := by
  obtain ⟨l, h0, h1, h2⟩ := h
  exact ⟨⟨a, b, c, l⟩, trivial, PLe.refl, PLe.refl, PLe.refl, h2, trivial⟩
theorem row_count (h : SlOf 3 Load.row YY 1000 p) : RowOf Count.row CntL [ei a, p, ei b, ei c] := by
  obtain ⟨l, h0, h1, h2⟩ := h
  exact ⟨⟨a, l, b, c⟩, by show l.length ≤ _; omega, PLe.refl, h2, PLe.refl, PLe.refl, trivial⟩
theorem row_load : RowOf Load.row YY [ei a, ei b, ei c] := ⟨⟨a, b, c⟩, trivial, PLeL.refl⟩
end
theorem fin_model {t : List Int} {c p n : PV} {ru : Int} (k : Nat) (hk : k ≤ t.length) (h1 : SlOf 1 optsRow ClsL 1000 c) (h2 : SlOf 4 Pair.row YY 1000 p) (h3 : SlOf 4 Count.row CntL 1000 n) :
    ∃ (y : Model) (k' : Nat), k' ≤ t.length ∧ Laid y ∧ Leq (.agg [.pv c, .pv p, .pv n, vint .i64 ru]) (ag y.cells) ∧ [dice t k] = [dice t k'] := by
  obtain ⟨l1, a1, b1, c1⟩ := h1
  obtain ⟨l2, a2, b2, c2⟩ := h2
  obtain ⟨l3, a3, b3, c3⟩ := h3
  exact ⟨⟨l1, l2, l3, ru⟩, k, hk, ⟨by show l1.length ≤ _; omega, by show l2.length ≤ _; omega, b1, b3⟩, ⟨ALe.agg ⟨ALe.pv c1, ALe.pv c2, ALe.pv c3, ALe.refl, trivial⟩⟩, rfl⟩
end Go.Proofs.YtihpjcmloecaaaaGreat.Cw
/-
  Odd models: no pairs, no counts.
-/
namespace Go.Proofs.YtihpjcmloecaaaaGreat.Cw
open Go.Cw Go.Proofs
set_option linter.unusedVariables false
set_option maxRecDepth 100000
set_option maxHeartbeats 30000000
theorem c_odd000 (t : List Int) (k : Nat) (ht : t.length ≤ 400) (hk : k ≤ t.length) (ru : Int) (q1 : ∀ l ∈ ([] : List (List Opt)), ClsL l) (q3 : ∀ c ∈ ([] : List Count), CntL c) (h1 : ([] : List (List Opt)).length ≤ 5) (h2 : ([] : List Pair).length ≤ 200) (h3 : ([] : List Count).length ≤ 6) (h4 : ∀ p ∈ ([] : List Pair), p.table.length ≤ 100) :
    ACall Tryz.prog 33 [.ptr 0 2 0 0, ag (Model.cells ⟨[], [], [], ru⟩)] [dice t k] (fun r H' => ∃ (y : Model) (k' : Nat), k' ≤ t.length ∧ Laid y ∧ Leq r (ag y.cells) ∧ H' = [dice t k']) := by
  have q2 : ∀ p ∈ ([] : List Pair), YY p := fun _ _ => trivial
  dsimp only [Model.cells]
  refine acall_of tok mixed 126 rfl (fn := Tryz.f33) (c := Tryz.f33.body.getD .skip) (by kernel_rfl) (by kernel_rfl) (by kernel_rfl) rfl 1 rfl ?_
  repeat' (first | refine o1 ?_ | refine o2 ?_ | refine k1 ?_ | refine k2 ?_ | refine k3 ?_ | refine k4 ?_ | refine k6 ?_ | refine k7 ?_ | refine And.intro ?_ ?_ | refine o3 ?_ | refine o4 ?_ | (intro h; first | exact Bool.noConfusion h | exact nz _ h | exact nl h | (simp at h; done) | (simp at h; first | (exfalso; omega) | skip) | skip) | (refine (?_ : srcLen _ = rowsLen _); rfl) | exact Nat.le_of_ble_eq_true rfl | exact (by kernel_rfl : drawOk _ _ = true) | refine eqv_wrap (by omega) (by omega) ?_ | (refine (?_ : _ ≤ 9223372036854775807); simp [rowsLen] <;> omega) | refine eqv_to _ (app_first rfl) (eqv_to 1 rfl ?_) | (change vcFun _ _ _ _ _; refine call_next 0 rfl (by assumption) (by assumption) (by omega) (by omega) ?_; intro v kq hv1 hv2 hkq) | (change vcFunD _ _ _ _ _; refine callD_next 0 rfl (by assumption) (by assumption) (by omega) (by omega) ?_; intro v kq hv1 hv2 hkq) | (refine app_mfirst ?_) | (refine lit_idx (by assumption) (by assumption) (fun kx hkx => ?_)) | (refine lit4_load rfl (by assumption) ?_ ?_ ?_ ?_) | (refine ⟨(24 + v).toNat, (24 + v).toNat, by omega, by omega, Nat.le_refl _, ?_⟩) | ((refine (?_ : Int.toNat _ * _ ≤ _); omega)) | (refine (eqv_rfl ?_ : eqv (List.replicate _ _) _)) | fail)
  all_goals try (refine ret_conv [0] [dice t kq] rfl rfl ⟨rfl, trivial⟩ rfl (by repeat' (first | exact True.intro | refine And.intro ?_ ?_ | (show 0 + _ ≤ List.length _; simp) | refine okL1 ?_)) rfl (fin_model kq hkq ?_ ?_ ?_))
  all_goals repeat' (first | exact SlOf.nil | refine SlOf.sl ?_ (by simp <;> omega) | exact RowsOf.map (by assumption) | exact RowsOf.nil | refine RowsOf.cons ?_ ?_ | refine RowsOf.take ?_ | refine RowsOf.drop ?_ | refine RowsOf.rep ?_ | exact row_load | exact row_charge | refine row_count ?_ | refine row_opt ?_ | refine row_cls ?_)
theorem c_odd001 (t : List Int) (k : Nat) (ht : t.length ≤ 400) (hk : k ≤ t.length) (l0 : List Opt) (cls : List (List Opt)) (ru : Int) (q1 : ∀ l ∈ (l0 :: cls : List (List Opt)), ClsL l) (q3 : ∀ c ∈ ([] : List Count), CntL c) (h1 : (l0 :: cls : List (List Opt)).length ≤ 5) (h2 : ([] : List Pair).length ≤ 200) (h3 : ([] : List Count).length ≤ 6) (h4 : ∀ p ∈ ([] : List Pair), p.table.length ≤ 100) :
    ACall Tryz.prog 33 [.ptr 0 2 0 0, ag (Model.cells ⟨l0 :: cls, [], [], ru⟩)] [dice t k] (fun r H' => ∃ (y : Model) (k' : Nat), k' ≤ t.length ∧ Laid y ∧ Leq r (ag y.cells) ∧ H' = [dice t k']) := by
  have q2 : ∀ p ∈ ([] : List Pair), YY p := fun _ _ => trivial
  obtain ⟨q1a, q1b⟩ := List.forall_mem_cons.1 q1
  simp only [List.length_cons] at h1
  dsimp only [Model.cells]
  refine acall_of tok mixed 126 rfl (fn := Tryz.f33) (c := Tryz.f33.body.getD .skip) (by kernel_rfl) (by kernel_rfl) (by kernel_rfl) rfl 1 rfl ?_
  repeat' (first | ((refine retL rfl rfl rfl ?_ rfl rfl rfl ?_; · repeat' (first | exact True.intro | refine And.intro ?_ ?_ | (show 0 + _ ≤ List.length _; simp) | refine okL1 ?_))) | refine o1 ?_ | refine o2 ?_ | refine k1 ?_ | refine k2 ?_ | refine k3 ?_ | refine k4 ?_ | refine k6 ?_ | refine k7 ?_ | refine And.intro ?_ ?_ | refine o3 ?_ | refine o4 ?_ | (intro h; first | exact Bool.noConfusion h | exact nz _ h | exact nl h | (simp at h; done) | (simp at h; first | (exfalso; omega) | skip) | skip) | (refine (?_ : srcLen _ = rowsLen _); rfl) | exact Nat.le_of_ble_eq_true rfl | exact (by kernel_rfl : drawOk _ _ = true) | refine eqv_wrap (by omega) (by omega) ?_ | (refine (?_ : _ ≤ 140737488355328); simp [rowsLen] <;> omega) | (refine (?_ : _ ≤ 9223372036854775807); simp [rowsLen] <;> omega) | (refine (?_ : _ = rowsLen _); simp [rowsLen] <;> omega) | refine eqv_to _ (app_first rfl) (eqv_to 1 rfl ?_) | (change vcFun _ _ _ _ _; refine call_next 0 rfl (by assumption) (by assumption) (by omega) (by omega) ?_; intro v kq hv1 hv2 hkq) | (change vcFunD _ _ _ _ _; refine callD_next 0 rfl (by assumption) (by assumption) (by omega) (by omega) ?_; intro v kq hv1 hv2 hkq) | (refine app_wholem ?_) | (refine app_mfirst ?_) | (refine app_mlast ?_) | (refine lit_idx (by assumption) (by assumption) (fun kx hkx => ?_)) | (refine lit4_load rfl (by assumption) ?_ ?_ ?_ ?_) | (refine ⟨(24 + v).toNat, (24 + v).toNat, by omega, by omega, Nat.le_refl _, ?_⟩) | ((refine (?_ : Int.toNat _ * _ ≤ _); omega)) | (refine (eqv_rfl ?_ : eqv (List.replicate _ _) _)) | fail)
  all_goals try (refine ret_conv [0] [dice t kq] rfl rfl ⟨rfl, trivial⟩ rfl (by repeat' (first | exact True.intro | refine And.intro ?_ ?_ | (show 0 + _ ≤ List.length _; simp) | refine okL1 ?_)) rfl (fin_model kq hkq ?_ ?_ ?_))
  all_goals repeat' (first | exact SlOf.nil | refine SlOf.sl ?_ (by simp <;> omega) | exact RowsOf.map (by assumption) | exact RowsOf.nil | refine RowsOf.cons ?_ ?_ | refine RowsOf.app ?_ ?_ | refine RowsOf.take ?_ | refine RowsOf.drop ?_ | refine RowsOf.rep ?_ | exact RowOf.mk (by assumption) PLeL.refl | exact row_load | exact row_charge | refine row_count ?_ | refine row_opt ?_ | refine row_cls ?_)
end Go.Proofs.YtihpjcmloecaaaaGreat.Cw
/-
  Odd models: no pairs.
-/
namespace Go.Proofs.YtihpjcmloecaaaaGreat.Cw
open Go.Cw Go.Proofs
set_option linter.unusedVariables false
set_option maxRecDepth 100000
set_option maxHeartbeats 30000000
theorem c_odd010 (t : List Int) (k : Nat) (ht : t.length ≤ 400) (hk : k ≤ t.length) (c0 : Count) (cts : List Count) (ru : Int) (q1 : ∀ l ∈ ([] : List (List Opt)), ClsL l) (q3 : ∀ c ∈ (c0 :: cts : List Count), CntL c) (h1 : ([] : List (List Opt)).length ≤ 5) (h2 : ([] : List Pair).length ≤ 200) (h3 : (c0 :: cts : List Count).length ≤ 6) (h4 : ∀ p ∈ ([] : List Pair), p.table.length ≤ 100) :
    ACall Tryz.prog 33 [.ptr 0 2 0 0, ag (Model.cells ⟨[], [], c0 :: cts, ru⟩)] [dice t k] (fun r H' => ∃ (y : Model) (k' : Nat), k' ≤ t.length ∧ Laid y ∧ Leq r (ag y.cells) ∧ H' = [dice t k']) := by
  have q2 : ∀ p ∈ ([] : List Pair), YY p := fun _ _ => trivial
  obtain ⟨q3a, q3b⟩ := List.forall_mem_cons.1 q3
  simp only [List.length_cons] at h3
  dsimp only [Model.cells]
  refine acall_of tok mixed 126 rfl (fn := Tryz.f33) (c := Tryz.f33.body.getD .skip) (by kernel_rfl) (by kernel_rfl) (by kernel_rfl) rfl 1 rfl ?_
  repeat' (first | ((refine retL rfl rfl rfl ?_ rfl rfl rfl ?_; · repeat' (first | exact True.intro | refine And.intro ?_ ?_ | (show 0 + _ ≤ List.length _; simp) | refine okL1 ?_))) | refine o1 ?_ | refine o2 ?_ | refine k1 ?_ | refine k2 ?_ | refine k3 ?_ | refine k4 ?_ | refine k6 ?_ | refine k7 ?_ | refine And.intro ?_ ?_ | refine o3 ?_ | refine o4 ?_ | (intro h; first | exact Bool.noConfusion h | exact nz _ h | exact nl h | (simp at h; done) | (simp at h; first | (exfalso; omega) | skip) | skip) | (refine (?_ : srcLen _ = rowsLen _); rfl) | exact Nat.le_of_ble_eq_true rfl | exact (by kernel_rfl : drawOk _ _ = true) | refine eqv_wrap (by omega) (by omega) ?_ | (refine (?_ : _ ≤ 140737488355328); simp [rowsLen] <;> omega) | (refine (?_ : _ ≤ 9223372036854775807); simp [rowsLen] <;> omega) | (refine (?_ : _ = rowsLen _); simp [rowsLen] <;> omega) | (change vcFun _ _ _ _ _; refine call_next 0 rfl (by assumption) (by assumption) (by omega) (by omega) ?_; intro v kq hv1 hv2 hkq) | (change vcFunD _ _ _ _ _; refine callD_next 0 rfl (by assumption) (by assumption) (by omega) (by omega) ?_; intro v kq hv1 hv2 hkq) | (refine app_wholem ?_) | (refine app_mfirst ?_) | (refine app_mlast ?_) | (refine app_cons ?_) | (refine lit_idx (by assumption) (by assumption) (fun kx hkx => ?_)) | (refine lit4_load rfl (by assumption) ?_ ?_ ?_ ?_) | (refine ⟨(24 + v).toNat, (24 + v).toNat, by omega, by omega, Nat.le_refl _, ?_⟩) | ((refine (?_ : Int.toNat _ * _ ≤ _); omega)) | (refine (eqv_rfl ?_ : eqv (List.replicate _ _) _)) | fail)
  all_goals try (refine ret_conv [0] [dice t kq] rfl rfl ⟨rfl, trivial⟩ rfl (by repeat' (first | exact True.intro | refine And.intro ?_ ?_ | (show 0 + _ ≤ List.length _; simp) | refine okL1 ?_)) rfl (fin_model kq hkq ?_ ?_ ?_))
  all_goals repeat' (first | exact SlOf.nil | refine SlOf.sl ?_ (by simp <;> omega) | exact RowsOf.map (by assumption) | exact RowsOf.nil | refine RowsOf.cons ?_ ?_ | refine RowsOf.app ?_ ?_ | refine RowsOf.take ?_ | refine RowsOf.drop ?_ | refine RowsOf.rep ?_ | exact RowOf.mk (by assumption) PLeL.refl | exact row_load | exact row_charge | refine row_count ?_ | refine row_opt ?_ | refine row_cls ?_)
theorem c_odd011 (t : List Int) (k : Nat) (ht : t.length ≤ 400) (hk : k ≤ t.length) (c0 : Count) (cts : List Count) (l0 : List Opt) (cls : List (List Opt)) (ru : Int) (q1 : ∀ l ∈ (l0 :: cls : List (List Opt)), ClsL l) (q3 : ∀ c ∈ (c0 :: cts : List Count), CntL c) (h1 : (l0 :: cls : List (List Opt)).length ≤ 5) (h2 : ([] : List Pair).length ≤ 200) (h3 : (c0 :: cts : List Count).length ≤ 6) (h4 : ∀ p ∈ ([] : List Pair), p.table.length ≤ 100) :
    ACall Tryz.prog 33 [.ptr 0 2 0 0, ag (Model.cells ⟨l0 :: cls, [], c0 :: cts, ru⟩)] [dice t k] (fun r H' => ∃ (y : Model) (k' : Nat), k' ≤ t.length ∧ Laid y ∧ Leq r (ag y.cells) ∧ H' = [dice t k']) := by
  have q2 : ∀ p ∈ ([] : List Pair), YY p := fun _ _ => trivial
  obtain ⟨q3a, q3b⟩ := List.forall_mem_cons.1 q3
  simp only [List.length_cons] at h3
  obtain ⟨q1a, q1b⟩ := List.forall_mem_cons.1 q1
  simp only [List.length_cons] at h1
  dsimp only [Model.cells]
  refine acall_of tok mixed 126 rfl (fn := Tryz.f33) (c := Tryz.f33.body.getD .skip) (by kernel_rfl) (by kernel_rfl) (by kernel_rfl) rfl 1 rfl ?_
  repeat' (first | ((refine retL rfl rfl rfl ?_ rfl rfl rfl ?_; · repeat' (first | exact True.intro | refine And.intro ?_ ?_ | (show 0 + _ ≤ List.length _; simp) | refine okL1 ?_))) | refine o1 ?_ | refine o2 ?_ | refine k1 ?_ | refine k2 ?_ | refine k3 ?_ | refine k4 ?_ | refine k6 ?_ | refine k7 ?_ | refine And.intro ?_ ?_ | refine o3 ?_ | refine o4 ?_ | (intro h; first | exact Bool.noConfusion h | exact nz _ h | exact nl h | (simp at h; done) | (simp at h; first | (exfalso; omega) | skip) | skip) | (refine (?_ : srcLen _ = rowsLen _); rfl) | exact Nat.le_of_ble_eq_true rfl | exact (by kernel_rfl : drawOk _ _ = true) | refine eqv_wrap (by omega) (by omega) ?_ | (refine (?_ : _ ≤ 140737488355328); simp [rowsLen] <;> omega) | (refine (?_ : _ ≤ 9223372036854775807); simp [rowsLen] <;> omega) | (refine (?_ : _ = rowsLen _); simp [rowsLen] <;> omega) | (change vcFun _ _ _ _ _; refine call_next 0 rfl (by assumption) (by assumption) (by omega) (by omega) ?_; intro v kq hv1 hv2 hkq) | (change vcFunD _ _ _ _ _; refine callD_next 0 rfl (by assumption) (by assumption) (by omega) (by omega) ?_; intro v kq hv1 hv2 hkq) | (refine app_wholem ?_) | (refine app_mlast ?_) | (refine app_cons ?_) | (refine lit_idx (by assumption) (by assumption) (fun kx hkx => ?_)) | (refine lit4_load rfl (by assumption) ?_ ?_ ?_ ?_) | (refine ⟨(24 + v).toNat, (24 + v).toNat, by omega, by omega, Nat.le_refl _, ?_⟩) | ((refine (?_ : Int.toNat _ * _ ≤ _); omega)) | (refine (eqv_rfl ?_ : eqv (List.replicate _ _) _)) | fail)
  all_goals try (refine ret_conv [0] [dice t kq] rfl rfl ⟨rfl, trivial⟩ rfl (by repeat' (first | exact True.intro | refine And.intro ?_ ?_ | (show 0 + _ ≤ List.length _; simp))) rfl (fin_model kq hkq ?_ ?_ ?_))
  all_goals repeat' (first | exact SlOf.nil | refine SlOf.sl ?_ (by simp <;> omega) | exact RowsOf.map (by assumption) | exact RowsOf.nil | refine RowsOf.cons ?_ ?_ | refine RowsOf.app ?_ ?_ | refine RowsOf.take ?_ | refine RowsOf.drop ?_ | refine RowsOf.rep ?_ | exact RowOf.mk (by assumption) PLeL.refl | exact row_load | exact row_charge | refine row_count ?_ | refine row_opt ?_ | refine row_cls ?_)
end Go.Proofs.YtihpjcmloecaaaaGreat.Cw
/-
  Odd models: no counts.
-/
namespace Go.Proofs.YtihpjcmloecaaaaGreat.Cw
open Go.Cw Go.Proofs
set_option linter.unusedVariables false
set_option maxRecDepth 100000
set_option maxHeartbeats 30000000
theorem c_odd100 (t : List Int) (k : Nat) (ht : t.length ≤ 400) (hk : k ≤ t.length) (p0 : Pair) (prs : List Pair) (ru : Int) (q1 : ∀ l ∈ ([] : List (List Opt)), ClsL l) (q3 : ∀ c ∈ ([] : List Count), CntL c) (h1 : ([] : List (List Opt)).length ≤ 5) (h2 : (p0 :: prs : List Pair).length ≤ 200) (h3 : ([] : List Count).length ≤ 6) (h4 : ∀ p ∈ (p0 :: prs : List Pair), p.table.length ≤ 100) :
    ACall Tryz.prog 33 [.ptr 0 2 0 0, ag (Model.cells ⟨[], p0 :: prs, [], ru⟩)] [dice t k] (fun r H' => ∃ (y : Model) (k' : Nat), k' ≤ t.length ∧ Laid y ∧ Leq r (ag y.cells) ∧ H' = [dice t k']) := by
  have q2 : ∀ p ∈ (p0 :: prs : List Pair), YY p := fun _ _ => trivial
  have h5 := h4 p0 (by simp)
  obtain ⟨q2a, q2b⟩ := List.forall_mem_cons.1 q2
  simp only [List.length_cons] at h2
  dsimp only [Model.cells]
  refine acall_of tok mixed 126 rfl (fn := Tryz.f33) (c := Tryz.f33.body.getD .skip) (by kernel_rfl) (by kernel_rfl) (by kernel_rfl) rfl 1 rfl ?_
  repeat' (first | ((refine ret0 rfl rfl rfl ?_ rfl rfl rfl ?_; · repeat' (first | exact True.intro | refine And.intro ?_ ?_ | (show 0 + _ ≤ List.length _; simp) | refine okL1 ?_))) | refine o1 ?_ | refine o2 ?_ | refine k1 ?_ | refine k2 ?_ | refine k3 ?_ | refine k4 ?_ | refine k7 ?_ | refine And.intro ?_ ?_ | refine o3 ?_ | refine o4 ?_ | (intro h; first | exact Bool.noConfusion h | exact nz _ h | exact nl h | (simp at h; done) | (simp at h; first | (exfalso; omega) | skip) | skip) | (refine (?_ : srcLen _ = rowsLen _); rfl) | exact Nat.le_of_ble_eq_true rfl | exact (by kernel_rfl : drawOk _ _ = true) | refine eqv_zero ?_ | refine eqv_wrap (by omega) (by omega) ?_ | (refine (?_ : _ ≤ 140737488355328); simp [rowsLen] <;> omega) | (refine (?_ : _ ≤ 9223372036854775807); simp [rowsLen] <;> omega) | (refine (?_ : _ = rowsLen _); simp [rowsLen] <;> omega) | refine eqv_to _ (app_first rfl) (eqv_to 1 rfl ?_) | refine idx_ms _ (by first | rfl | assumption) (by first | assumption | omega) ?_ | (change vcFun _ _ _ _ _; refine call_next 0 rfl (by assumption) (by assumption) (by omega) (by omega) ?_; intro v kq hv1 hv2 hkq) | (change vcFunD _ _ _ _ _; refine callD_next 0 rfl (by assumption) (by assumption) (by omega) (by omega) ?_; intro v kq hv1 hv2 hkq) | (refine app_wholem ?_) | (refine app_mfirst ?_) | (refine app_cons ?_) | (refine app_lit ?_) | (refine set0p ?_) | (refine set0m ?_) | (refine row0_load ?_) | (refine lit_idx (by assumption) (by assumption) (fun kx hkx => ?_)) | (refine lit4_load rfl (by assumption) ?_ ?_ ?_ ?_) | (refine ⟨(24 + v).toNat, (24 + v).toNat, by omega, by omega, Nat.le_refl _, ?_⟩) | ((refine (?_ : Int.toNat _ * _ ≤ _); omega)) | (refine (eqv_rfl ?_ : eqv (List.replicate _ _) _)) | fail)
  all_goals try (refine ret_conv [0] [dice t kq] rfl rfl ⟨rfl, trivial⟩ rfl (by repeat' (first | exact True.intro | refine And.intro ?_ ?_ | (show 0 + _ ≤ List.length _; simp) | refine okL1 ?_)) rfl (fin_model kq hkq ?_ ?_ ?_))
  all_goals repeat' (first | exact SlOf.nil | refine SlOf.sl ?_ (by simp <;> omega) | exact RowsOf.map (by assumption) | exact RowsOf.map (f := eI) (fun _ _ => trivial) | exact RowsOf.nil | refine RowsOf.cons ?_ ?_ | refine RowsOf.app ?_ ?_ | refine RowsOf.take ?_ | refine RowsOf.drop ?_ | refine RowsOf.rep ?_ | exact RowOf.mk (by assumption) PLeL.refl | exact row_load | exact row_charge | refine row_count ?_ | refine row_pair (n := 1000) ?_ | refine row_opt ?_ | refine row_cls ?_)
theorem c_odd101 (t : List Int) (k : Nat) (ht : t.length ≤ 400) (hk : k ≤ t.length) (p0 : Pair) (prs : List Pair) (l0 : List Opt) (cls : List (List Opt)) (ru : Int) (q1 : ∀ l ∈ (l0 :: cls : List (List Opt)), ClsL l) (q3 : ∀ c ∈ ([] : List Count), CntL c) (h1 : (l0 :: cls : List (List Opt)).length ≤ 5) (h2 : (p0 :: prs : List Pair).length ≤ 200) (h3 : ([] : List Count).length ≤ 6) (h4 : ∀ p ∈ (p0 :: prs : List Pair), p.table.length ≤ 100) :
    ACall Tryz.prog 33 [.ptr 0 2 0 0, ag (Model.cells ⟨l0 :: cls, p0 :: prs, [], ru⟩)] [dice t k] (fun r H' => ∃ (y : Model) (k' : Nat), k' ≤ t.length ∧ Laid y ∧ Leq r (ag y.cells) ∧ H' = [dice t k']) := by
  have q2 : ∀ p ∈ (p0 :: prs : List Pair), YY p := fun _ _ => trivial
  have h5 := h4 p0 (by simp)
  obtain ⟨q2a, q2b⟩ := List.forall_mem_cons.1 q2
  simp only [List.length_cons] at h2
  obtain ⟨q1a, q1b⟩ := List.forall_mem_cons.1 q1
  simp only [List.length_cons] at h1
  dsimp only [Model.cells]
  refine acall_of tok mixed 126 rfl (fn := Tryz.f33) (c := Tryz.f33.body.getD .skip) (by kernel_rfl) (by kernel_rfl) (by kernel_rfl) rfl 1 rfl ?_
  repeat' (first | ((refine retL rfl rfl rfl ?_ rfl rfl rfl ?_; · repeat' (first | exact True.intro | refine And.intro ?_ ?_ | (show 0 + _ ≤ List.length _; simp) | refine okL1 ?_))) | ((refine ret0 rfl rfl rfl ?_ rfl rfl rfl ?_; · repeat' (first | exact True.intro | refine And.intro ?_ ?_ | (show 0 + _ ≤ List.length _; simp) | refine okL1 ?_))) | refine o1 ?_ | refine o2 ?_ | refine k1 ?_ | refine k2 ?_ | refine k3 ?_ | refine k4 ?_ | refine k7 ?_ | refine And.intro ?_ ?_ | refine o3 ?_ | refine o4 ?_ | (intro h; first | exact Bool.noConfusion h | exact nz _ h | exact nl h | (simp at h; done) | (simp at h; first | (exfalso; omega) | skip) | skip) | (refine (?_ : srcLen _ = rowsLen _); rfl) | exact Nat.le_of_ble_eq_true rfl | exact (by kernel_rfl : drawOk _ _ = true) | refine eqv_zero ?_ | refine eqv_wrap (by omega) (by omega) ?_ | (refine (?_ : _ ≤ 140737488355328); simp [rowsLen] <;> omega) | (refine (?_ : _ ≤ 9223372036854775807); simp [rowsLen] <;> omega) | (refine (?_ : _ = rowsLen _); simp [rowsLen] <;> omega) | refine eqv_to _ (app_first rfl) (eqv_to 1 rfl ?_) | refine idx_ms _ (by first | rfl | assumption) (by first | assumption | omega) ?_ | (change vcFun _ _ _ _ _; refine call_next 0 rfl (by assumption) (by assumption) (by omega) (by omega) ?_; intro v kq hv1 hv2 hkq) | (change vcFunD _ _ _ _ _; refine callD_next 0 rfl (by assumption) (by assumption) (by omega) (by omega) ?_; intro v kq hv1 hv2 hkq) | (refine app_wholem ?_) | (refine app_mfirst ?_) | (refine app_mlast ?_) | (refine app_cons ?_) | (refine app_lit ?_) | (refine set0p ?_) | (refine set0m ?_) | (refine row0_load ?_) | (refine lit_idx (by assumption) (by assumption) (fun kx hkx => ?_)) | (refine lit4_load rfl (by assumption) ?_ ?_ ?_ ?_) | (refine ⟨(24 + v).toNat, (24 + v).toNat, by omega, by omega, Nat.le_refl _, ?_⟩) | ((refine (?_ : Int.toNat _ * _ ≤ _); omega)) | (refine (eqv_rfl ?_ : eqv (List.replicate _ _) _)) | fail)
  all_goals try (refine ret_conv [0] [dice t kq] rfl rfl ⟨rfl, trivial⟩ rfl (by repeat' (first | exact True.intro | refine And.intro ?_ ?_ | (show 0 + _ ≤ List.length _; simp) | refine okL1 ?_)) rfl (fin_model kq hkq ?_ ?_ ?_))
  all_goals repeat' (first | exact SlOf.nil | refine SlOf.sl ?_ (by simp <;> omega) | exact RowsOf.map (by assumption) | exact RowsOf.map (f := eI) (fun _ _ => trivial) | exact RowsOf.nil | refine RowsOf.cons ?_ ?_ | refine RowsOf.app ?_ ?_ | refine RowsOf.take ?_ | refine RowsOf.drop ?_ | refine RowsOf.rep ?_ | exact RowOf.mk (by assumption) PLeL.refl | exact row_load | exact row_charge | refine row_count ?_ | refine row_pair (n := 1000) ?_ | refine row_opt ?_ | refine row_cls ?_)
end Go.Proofs.YtihpjcmloecaaaaGreat.Cw
/-
  Odd models: pairs and counts.
-/
namespace Go.Proofs.YtihpjcmloecaaaaGreat.Cw
open Go.Cw Go.Proofs
set_option linter.unusedVariables false
set_option maxRecDepth 100000
set_option maxHeartbeats 30000000
theorem c_odd110 (t : List Int) (k : Nat) (ht : t.length ≤ 400) (hk : k ≤ t.length) (p0 : Pair) (prs : List Pair) (c0 : Count) (cts : List Count) (ru : Int) (q1 : ∀ l ∈ ([] : List (List Opt)), ClsL l) (q3 : ∀ c ∈ (c0 :: cts : List Count), CntL c) (h1 : ([] : List (List Opt)).length ≤ 5) (h2 : (p0 :: prs : List Pair).length ≤ 200) (h3 : (c0 :: cts : List Count).length ≤ 6) (h4 : ∀ p ∈ (p0 :: prs : List Pair), p.table.length ≤ 100) :
    ACall Tryz.prog 33 [.ptr 0 2 0 0, ag (Model.cells ⟨[], p0 :: prs, c0 :: cts, ru⟩)] [dice t k] (fun r H' => ∃ (y : Model) (k' : Nat), k' ≤ t.length ∧ Laid y ∧ Leq r (ag y.cells) ∧ H' = [dice t k']) := by
  have q2 : ∀ p ∈ (p0 :: prs : List Pair), YY p := fun _ _ => trivial
  have h5 := h4 p0 (by simp)
  obtain ⟨q2a, q2b⟩ := List.forall_mem_cons.1 q2
  simp only [List.length_cons] at h2
  obtain ⟨q3a, q3b⟩ := List.forall_mem_cons.1 q3
  simp only [List.length_cons] at h3
  dsimp only [Model.cells]
  refine acall_of tok mixed 126 rfl (fn := Tryz.f33) (c := Tryz.f33.body.getD .skip) (by kernel_rfl) (by kernel_rfl) (by kernel_rfl) rfl 1 rfl ?_
  repeat' (first | ((refine retL rfl rfl rfl ?_ rfl rfl rfl ?_; · repeat' (first | exact True.intro | refine And.intro ?_ ?_ | (show 0 + _ ≤ List.length _; simp) | refine okL1 ?_))) | ((refine ret0 rfl rfl rfl ?_ rfl rfl rfl ?_; · repeat' (first | exact True.intro | refine And.intro ?_ ?_ | (show 0 + _ ≤ List.length _; simp) | refine okL1 ?_))) | refine o1 ?_ | refine o2 ?_ | refine k1 ?_ | refine k2 ?_ | refine k3 ?_ | refine k4 ?_ | refine k7 ?_ | refine And.intro ?_ ?_ | refine o3 ?_ | refine o4 ?_ | (intro h; first | exact Bool.noConfusion h | exact nz _ h | exact nl h | (simp at h; done) | (simp at h; first | (exfalso; omega) | skip) | skip) | (refine (?_ : srcLen _ = rowsLen _); rfl) | exact Nat.le_of_ble_eq_true rfl | exact (by kernel_rfl : drawOk _ _ = true) | refine eqv_zero ?_ | refine eqv_wrap (by omega) (by omega) ?_ | (refine (?_ : _ ≤ 140737488355328); simp [rowsLen] <;> omega) | (refine (?_ : _ ≤ 9223372036854775807); simp [rowsLen] <;> omega) | (refine (?_ : _ = rowsLen _); simp [rowsLen] <;> omega) | refine idx_ms _ (by first | rfl | assumption) (by first | assumption | omega) ?_ | (change vcFun _ _ _ _ _; refine call_next 0 rfl (by assumption) (by assumption) (by omega) (by omega) ?_; intro v kq hv1 hv2 hkq) | (change vcFunD _ _ _ _ _; refine callD_next 0 rfl (by assumption) (by assumption) (by omega) (by omega) ?_; intro v kq hv1 hv2 hkq) | (refine app_wholem ?_) | (refine app_mfirst ?_) | (refine app_mlast ?_) | (refine app_cons ?_) | (refine app_lit ?_) | (refine set0p ?_) | (refine set0m ?_) | (refine row0_load ?_) | (refine lit_idx (by assumption) (by assumption) (fun kx hkx => ?_)) | (refine lit4_load rfl (by assumption) ?_ ?_ ?_ ?_) | (refine ⟨(24 + v).toNat, (24 + v).toNat, by omega, by omega, Nat.le_refl _, ?_⟩) | ((refine (?_ : Int.toNat _ * _ ≤ _); omega)) | (refine (eqv_rfl ?_ : eqv (List.replicate _ _) _)) | fail)
  all_goals try (refine ret_conv [0] [dice t kq] rfl rfl ⟨rfl, trivial⟩ rfl (by repeat' (first | exact True.intro | refine And.intro ?_ ?_ | (show 0 + _ ≤ List.length _; simp) | refine okL1 ?_)) rfl (fin_model kq hkq ?_ ?_ ?_))
  all_goals repeat' (first | exact SlOf.nil | refine SlOf.sl ?_ (by simp <;> omega) | exact RowsOf.map (by assumption) | exact RowsOf.map (f := eI) (fun _ _ => trivial) | exact RowsOf.nil | refine RowsOf.cons ?_ ?_ | refine RowsOf.app ?_ ?_ | refine RowsOf.take ?_ | refine RowsOf.drop ?_ | refine RowsOf.rep ?_ | exact RowOf.mk (by assumption) PLeL.refl | exact row_load | exact row_charge | refine row_count ?_ | refine row_pair (n := 1000) ?_ | refine row_opt ?_ | refine row_cls ?_)
theorem c_odd111 (t : List Int) (k : Nat) (ht : t.length ≤ 400) (hk : k ≤ t.length) (p0 : Pair) (prs : List Pair) (c0 : Count) (cts : List Count) (l0 : List Opt) (cls : List (List Opt)) (ru : Int) (q1 : ∀ l ∈ (l0 :: cls : List (List Opt)), ClsL l) (q3 : ∀ c ∈ (c0 :: cts : List Count), CntL c) (h1 : (l0 :: cls : List (List Opt)).length ≤ 5) (h2 : (p0 :: prs : List Pair).length ≤ 200) (h3 : (c0 :: cts : List Count).length ≤ 6) (h4 : ∀ p ∈ (p0 :: prs : List Pair), p.table.length ≤ 100) :
    ACall Tryz.prog 33 [.ptr 0 2 0 0, ag (Model.cells ⟨l0 :: cls, p0 :: prs, c0 :: cts, ru⟩)] [dice t k] (fun r H' => ∃ (y : Model) (k' : Nat), k' ≤ t.length ∧ Laid y ∧ Leq r (ag y.cells) ∧ H' = [dice t k']) := by
  have q2 : ∀ p ∈ (p0 :: prs : List Pair), YY p := fun _ _ => trivial
  have h5 := h4 p0 (by simp)
  obtain ⟨q2a, q2b⟩ := List.forall_mem_cons.1 q2
  simp only [List.length_cons] at h2
  obtain ⟨q3a, q3b⟩ := List.forall_mem_cons.1 q3
  simp only [List.length_cons] at h3
  obtain ⟨q1a, q1b⟩ := List.forall_mem_cons.1 q1
  simp only [List.length_cons] at h1
  dsimp only [Model.cells]
  refine acall_of tok mixed 126 rfl (fn := Tryz.f33) (c := Tryz.f33.body.getD .skip) (by kernel_rfl) (by kernel_rfl) (by kernel_rfl) rfl 1 rfl ?_
  repeat' (first | ((refine retL rfl rfl rfl ?_ rfl rfl rfl ?_; · repeat' (first | exact True.intro | refine And.intro ?_ ?_ | (show 0 + _ ≤ List.length _; simp) | refine okL1 ?_))) | ((refine ret0 rfl rfl rfl ?_ rfl rfl rfl ?_; · repeat' (first | exact True.intro | refine And.intro ?_ ?_ | (show 0 + _ ≤ List.length _; simp) | refine okL1 ?_))) | refine o1 ?_ | refine o2 ?_ | refine k1 ?_ | refine k2 ?_ | refine k3 ?_ | refine k4 ?_ | refine k7 ?_ | refine And.intro ?_ ?_ | refine o3 ?_ | refine o4 ?_ | (intro h; first | exact Bool.noConfusion h | exact nz _ h | exact nl h | (simp at h; done) | (simp at h; first | (exfalso; omega) | skip) | skip) | (refine (?_ : srcLen _ = rowsLen _); rfl) | exact Nat.le_of_ble_eq_true rfl | exact (by kernel_rfl : drawOk _ _ = true) | refine eqv_zero ?_ | refine eqv_wrap (by omega) (by omega) ?_ | (refine (?_ : _ ≤ 140737488355328); simp [rowsLen] <;> omega) | (refine (?_ : _ ≤ 9223372036854775807); simp [rowsLen] <;> omega) | (refine (?_ : _ = rowsLen _); simp [rowsLen] <;> omega) | refine idx_ms _ (by first | rfl | assumption) (by first | assumption | omega) ?_ | (change vcFun _ _ _ _ _; refine call_next 0 rfl (by assumption) (by assumption) (by omega) (by omega) ?_; intro v kq hv1 hv2 hkq) | (change vcFunD _ _ _ _ _; refine callD_next 0 rfl (by assumption) (by assumption) (by omega) (by omega) ?_; intro v kq hv1 hv2 hkq) | (refine app_wholem ?_) | (refine app_mlast ?_) | (refine app_cons ?_) | (refine app_lit ?_) | (refine set0p ?_) | (refine set0m ?_) | (refine row0_load ?_) | (refine lit_idx (by assumption) (by assumption) (fun kx hkx => ?_)) | (refine lit4_load rfl (by assumption) ?_ ?_ ?_ ?_) | (refine ⟨(24 + v).toNat, (24 + v).toNat, by omega, by omega, Nat.le_refl _, ?_⟩) | ((refine (?_ : Int.toNat _ * _ ≤ _); omega)) | (refine (eqv_rfl ?_ : eqv (List.replicate _ _) _)) | fail)
  all_goals try (refine ret_conv [0] [dice t kq] rfl rfl ⟨rfl, trivial⟩ rfl (by repeat' (first | exact True.intro | refine And.intro ?_ ?_ | (show 0 + _ ≤ List.length _; simp))) rfl (fin_model kq hkq ?_ ?_ ?_))
  all_goals repeat' (first | exact SlOf.nil | refine SlOf.sl ?_ (by simp <;> omega) | exact RowsOf.map (by assumption) | exact RowsOf.map (f := eI) (fun _ _ => trivial) | exact RowsOf.nil | refine RowsOf.cons ?_ ?_ | refine RowsOf.app ?_ ?_ | refine RowsOf.take ?_ | refine RowsOf.drop ?_ | refine RowsOf.rep ?_ | exact RowOf.mk (by assumption) PLeL.refl | exact row_load | exact row_charge | refine row_count ?_ | refine row_pair (n := 1000) ?_ | refine row_opt ?_ | refine row_cls ?_)
end Go.Proofs.YtihpjcmloecaaaaGreat.Cw
/-
  Odd models: all ways together.
-/
namespace Go.Proofs.YtihpjcmloecaaaaGreat.Cw
open Go.Cw Go.Proofs
set_option linter.unusedVariables false
set_option maxRecDepth 100000
theorem c_oddmodel0 (t : List Int) (k : Nat) (ht : t.length ≤ 400) (hk : k ≤ t.length) (m : Model) (q1 : ∀ l ∈ m.classes, ClsL l) (q3 : ∀ c ∈ m.counts, CntL c) (h1 : m.classes.length ≤ 5) (h2 : m.pairs.length ≤ 200) (h3 : m.counts.length ≤ 6) (h4 : ∀ p ∈ m.pairs, p.table.length ≤ 100) :
    ACall Tryz.prog 33 [.ptr 0 2 0 0, ag m.cells] [dice t k] (fun r H' => ∃ (y : Model) (k' : Nat), k' ≤ t.length ∧ Laid y ∧ Leq r (ag y.cells) ∧ H' = [dice t k']) := by
  obtain ⟨cls, prs, cts, ru⟩ := m
  rcases prs with _ | ⟨p0, prs⟩ <;> rcases cts with _ | ⟨c0, cts⟩ <;> rcases cls with _ | ⟨l0, cls⟩
  · exact c_odd000 t k ht hk ru q1 q3 h1 h2 h3 h4
  · exact c_odd001 t k ht hk l0 cls ru q1 q3 h1 h2 h3 h4
  · exact c_odd010 t k ht hk c0 cts ru q1 q3 h1 h2 h3 h4
  · exact c_odd011 t k ht hk c0 cts l0 cls ru q1 q3 h1 h2 h3 h4
  · exact c_odd100 t k ht hk p0 prs ru q1 q3 h1 h2 h3 h4
  · exact c_odd101 t k ht hk p0 prs l0 cls ru q1 q3 h1 h2 h3 h4
  · exact c_odd110 t k ht hk p0 prs c0 cts ru q1 q3 h1 h2 h3 h4
  · exact c_odd111 t k ht hk p0 prs c0 cts l0 cls ru q1 q3 h1 h2 h3 h4
end Go.Proofs.YtihpjcmloecaaaaGreat.Cw
/-
  Symmetry: the models of the laws.
-/
namespace Go.Proofs.YtihpjcmloecaaaaGreat.Cw
open Go Go.Cw Go.Proofs
set_option linter.unusedVariables false
set_option maxRecDepth 100000
set_option maxHeartbeats 8000000
theorem c_oddeven (t : List Int) (k : Nat) (ht : t.length ≤ 400) (hk : k ≤ t.length) (m : Model) (hm : EvM m) :
    ACall Tryz.prog 33 [.ptr 0 2 0 0, ag m.cells] [dice t k] (fun r H' => ∃ (y : Model) (k' : Nat), k' ≤ t.length ∧ Laid y ∧ r = ag y.cells ∧ H' = [dice t k']) :=
  (c_oddmodel0 t k ht hk m hm.laid.ch hm.laid.ld hm.few hm.prs hm.cts hm.tabs).weak fun r H' ⟨y, k', g1, g2, g3, g4⟩ => ⟨_, g3.le, y, k', g1, g2, rfl, g4⟩
theorem c_model (t : List Int) (k : Nat) (ht : t.length ≤ 400) (hk : k ≤ t.length) :
    ACall Tryz.prog 11 [.ptr 0 2 0 0] [dice t k] (fun r H' => ∃ (m : Model) (k' : Nat), k' ≤ t.length ∧ Laid m ∧ r = ag m.cells ∧ H' = [dice t k']) := by
  refine acall_of tok mixed 20 rfl (fn := Tryz.f11) (c := Tryz.f11.body.getD .skip) (by kernel_rfl) (by kernel_rfl) (by kernel_rfl) rfl 1 rfl ?_
  repeat' (first | ((change vcFun _ _ _ _ _; refine call_one (i := 0) rfl (fun _ _ => rfl) [.ptr 0 2 0 0, vint .i64 3, vint .i64 4] rfl (c_dmodel t kq ht hkq 3 4 ⟨by omega, by omega⟩ ⟨by omega, by omega⟩) ?_; rintro r H' ⟨m, ky, c1, c2, rfl, rfl⟩; refine ⟨_, rfl, fun _ _ => rfl, fun _ _ => rfl, ?_⟩)) | ((change vcFun _ _ _ _ _; refine call_one (i := 0) rfl (fun _ _ => rfl) [.ptr 0 2 0 0, vint .i64 3, vint .i64 2] rfl (c_even t kq ht hkq 3 2 (by omega) (by omega) (by omega)) ?_; rintro r H' ⟨m, ky, c1, c2, rfl, rfl⟩; refine ⟨_, rfl, fun _ _ => rfl, fun _ _ => rfl, ?_⟩)) | ((change vcFun _ _ _ _ _; refine call_one (i := 0) rfl (fun _ _ => rfl) [.ptr 0 2 0 0, ag m.cells] rfl (c_oddeven t ky ht c1 m c2) ?_; rintro r H' ⟨y, kz, d1, d2, rfl, rfl⟩; refine ⟨_, rfl, fun _ _ => rfl, fun _ _ => rfl, ?_⟩)) | refine o1 ?_ | refine o2 ?_ | refine k1 ?_ | refine k2 ?_ | refine k3 ?_ | refine k4 ?_ | refine k6 ?_ | refine k7 ?_ | refine And.intro ?_ ?_ | (intro h; first | exact Bool.noConfusion h | exact nz _ h | exact nl h | (simp at h; done) | (simp at h; first | (exfalso; omega) | skip) | skip) | exact (by kernel_rfl : drawOk _ _ = true) | refine eqv_wrap (by omega) (by omega) ?_ | (change vcFun _ _ _ _ _; refine call_next 0 rfl (by assumption) (by assumption) (by omega) (by omega) ?_; intro v kq hv1 hv2 hkq) | fail)
  · exact ret_obj [0] [dice t ky] rfl rfl ⟨rfl, trivial⟩ (r' := ag m.cells) rfl ⟨m, ky, c1, c2.laid, rfl, rfl⟩
  · exact ret_obj [0] [dice t kz] rfl rfl ⟨rfl, trivial⟩ (r' := ag y.cells) rfl ⟨y, kz, d1, d2, rfl, rfl⟩
  obtain ⟨R, hR⟩ : ∃ R : Nat, 2 + v = (R : Int) := ⟨(2 + v).toNat, by omega⟩
  rw [hR]
  change vcFun _ _ _ _ _
  refine call_one (i := 0) rfl (fun _ _ => rfl) [.ptr 0 2 0 0, vint .i64 4, vint .i64 R] rfl (c_even t kq ht (by assumption) 4 R (by omega) (by omega) (by omega)) ?_
  rintro r H' ⟨m, ky, c1, c2, rfl, rfl⟩
  refine ⟨_, rfl, fun _ _ => rfl, fun _ _ => rfl, ?_⟩
  repeat' (first | refine o1 ?_ | refine o2 ?_ | refine k7 ?_ | fail)
  exact ret_obj [0] [dice t ky] rfl rfl ⟨rfl, trivial⟩ (r' := ag m.cells) rfl ⟨m, ky, c1, c2.laid, rfl, rfl⟩
end Go.Proofs.YtihpjcmloecaaaaGreat.Cw
