/-
  Part 7 of the proof (MkB, MkC, MkD, Mk2, SE5, Mk3, Mk5, Mk5a, Mk5b, Mk5c, Mk5d, Mk6, SE6, SC1, SC2, SC3): what later parts use. No conditions.
-/
import Derived.Test.YtihpjcmloecaaaaGreatMJ6
/-
  Made models: the walk, classes.
-/
namespace Go.Proofs.YtihpjcmloecaaaaGreat.Cw
open Go.Cw Go.Proofs
set_option linter.unusedVariables false
set_option maxRecDepth 100000
set_option maxHeartbeats 30000000
theorem stageB {Q : Exit → Slots → Heap → Prop} {rest : Code} (t : List Int) (ht : t.length ≤ 400) (a b : Int) (r : Int) (r1 : 1 ≤ r) (r2 : r ≤ 4) (k : Nat) (r0 : k ≤ t.length) (ha : 0 ≤ a ∧ a ≤ 5) (hb : 1 ≤ b ∧ b ≤ 4)
    (later : Later (∀ x : Nat × List (List Opt), (x.1 ≤ t.length ∧ x.2.length ≤ 5 ∧ ∀ l ∈ x.2, ClsQ r l) → forceH [dice t x.1, zeroM, mb (.pv (.sl 1 (x.2.map optsRow))) nilA nilA r] fun H1 => xCode Tryz.prog T 199 1 rest Q ([] ++ [(7, .ptr 2 4 0 0), (6, .ptr (0 + 1) 4 0 0), (0, .ptr 0 2 0 0), (0 + 1, vint .i64 a), (0 + 1 + 1, vint .i64 b)]) H1)) :
    xCode Tryz.prog T 199 1 (.seq codeB rest) Q ([] ++ [(7, .ptr 2 4 0 0), (6, .ptr (0 + 1) 4 0 0), (0, .ptr 0 2 0 0), (0 + 1, vint .i64 a), (0 + 1 + 1, vint .i64 b)]) [dice t k, zeroM, mb nilA nilA nilA r] := by
  show xCode _ _ _ _ (.seq (.seq (.region 2 _ _) _) rest) _ _ _
  dsimp only [zeroM, mb, nilA]
  repeat' (first | (refine join_in (a := .seq (.region 2 _ _) _) (fun _ => []) (fun x : Nat × List (List Opt) => [dice t x.1, zeroM, mb (.pv (.sl 1 (x.2.map optsRow))) nilA nilA r]) (fun x => x.1 ≤ t.length ∧ x.2.length ≤ 5 ∧ ∀ l ∈ x.2, ClsQ r l) ?_) | refine o1 ?_ | refine o2 ?_ | refine k1 ?_ | refine k2 ?_ | refine k4 ?_ | refine And.intro ?_ ?_ | refine eqv_wrap (by omega) (by omega) ?_ | (change vcFun _ _ _ _ _; refine call_next 0 rfl (by assumption) (by assumption) (by omega) (by omega) ?_; intro v kq hv1 hv2 hkq) | fail)
  · refine loop_in (fun x : Nat × Nat × List (List Opt) => [(8, vint .i64 x.1)]) (fun x => [dice t x.2.1, zeroM, mb (slP 3 1 (List.map optsRow (x.2.2))) nilA nilA r, obP 51 1 (List.map optsRow (x.2.2))]) (fun x => x.1 + x.2.2.length ≤ 5 ∧ x.2.1 ≤ t.length ∧ ∀ l ∈ x.2.2, ClsQ r l) (fun x => x.1) (v.toNat, kq, []) ⟨by simp; omega, hkq, fun l hl => absurd hl List.not_mem_nil⟩ ⟨?_, ?_⟩
    · exact back [0, 1, 2, 3] rfl rfl (by repeat' (first | exact trivial | exact rfl | refine And.intro ?_ ?_)) ⟨slot_eq rfl (congrArg (vint .i64) (by show _ = ((v.toNat : Nat) : Int); omega)), (by repeat' (first | exact trivial | exact rfl | refine And.intro ?_ ?_))⟩
    rintro ⟨n, k, cls⟩ ⟨c1, c2, c3⟩
    dsimp only at c1 c2 c3
    rcases cls with _ | ⟨c0, cls⟩
    · simp only [List.length_cons, List.length_nil] at c1
      dsimp only [slP, obP, zeroM, mb, ob5, nilA, List.map, List.length_cons, List.length_nil, List.length_map]
      rcases Nat.eq_zero_or_pos n with rfl | hn
      · repeat' (first | refine o1 ?_ | refine o2 ?_ | refine k1 ?_ | refine k2 ?_ | refine k3 ?_ | refine k8 ?_ | refine And.intro ?_ ?_ | (intro h; first | exact Bool.noConfusion h | exact nz _ h | exact nl h | (simp at h; done) | (simp at h; first | (exfalso; omega) | skip) | skip) | fail)
        exact ⟨(k, []), ⟨c2, by simp, c3⟩, Ghost.trans (Ghost.shut (i := 2) (c := 0) (x := .pv (.val (.slice none 0 0))) rfl rfl rfl (by repeat' (first | trivial)) (show ¬ (2 ∈ ([] : List Nat)) by decide) (ALe.pv PLe.nil)) (back [0, 1, 2] rfl rfl (by repeat' (first | exact trivial | exact rfl | refine And.intro ?_ ?_)) (by repeat' (first | exact trivial | exact rfl | refine And.intro ?_ ?_)))⟩
      · repeat' (first | (refine join_in (a := .seq (.region 6 _ _) _) (fun x : Nat × List Opt => [(9, .pv (.sl 6 (x.2.map Opt.row)))]) (fun x => [dice t x.1, zeroM, mb (slP 3 1 (List.map optsRow ([]))) nilA nilA r, obP 51 1 (List.map optsRow ([]))]) (fun x => x.1 ≤ t.length ∧ 1 ≤ x.2.length ∧ x.2.length ≤ 4 ∧ ∀ o ∈ x.2, OptQ r o) ?_) | refine o1 ?_ | refine o2 ?_ | refine k1 ?_ | refine k2 ?_ | refine k3 ?_ | refine k4 ?_ | refine k6 ?_ | refine And.intro ?_ ?_ | (intro h; first | exact Bool.noConfusion h | exact nz _ h | exact nl h | (simp at h; done) | (simp at h; first | (exfalso; omega) | skip) | skip) | refine eqv_wrap (by omega) (by omega) ?_ | (change vcFun _ _ _ _ _; refine call_next 0 rfl (by assumption) (by assumption) (by omega) (by omega) ?_; intro v kq hv1 hv2 hkq) | fail)
        · refine loop_in (fun x : Nat × Nat × List Opt => [(9, slP 4 6 (List.map Opt.row (x.2.2))), (10, vint .i64 x.1)]) (fun x => [dice t x.2.1, zeroM, mb (slP 3 1 (List.map optsRow ([]))) nilA nilA r, obP 51 1 (List.map optsRow ([])), obP 62 6 (List.map Opt.row (x.2.2))]) (fun x => (x.1 + x.2.2.length ≤ 4 ∧ 1 ≤ x.1 + x.2.2.length) ∧ x.2.1 ≤ t.length ∧ ∀ o ∈ x.2.2, OptQ r o) (fun x => x.1) ((1 + v).toNat, kq, []) ⟨by simp; omega, hkq, fun o ho => absurd ho List.not_mem_nil⟩ ⟨?_, ?_⟩
          · exact back [0, 1, 2, 3, 4] rfl rfl (by repeat' (first | exact trivial | exact rfl | refine And.intro ?_ ?_)) ⟨rfl, slot_eq rfl (congrArg (vint .i64) (by show _ = (((1 + v).toNat : Nat) : Int); omega)), (by repeat' (first | exact trivial | exact rfl | refine And.intro ?_ ?_))⟩
          rintro ⟨n2, k, ops⟩ ⟨g1, g2, g3⟩
          dsimp only at g1 g2 g3
          rcases ops with _ | ⟨o0, ops⟩
          · simp only [List.length_cons, List.length_nil] at g1
            dsimp only [slP, obP, zeroM, mb, ob5, nilA, List.map, List.length_cons, List.length_nil, List.length_map]
            rcases Nat.eq_zero_or_pos n2 with rfl | hn
            · repeat' (first | refine o1 ?_ | refine o2 ?_ | refine k1 ?_ | refine k2 ?_ | refine k3 ?_ | refine And.intro ?_ ?_ | (intro h; first | exact Bool.noConfusion h | exact nz _ h | exact nl h | (simp at h; done) | (simp at h; first | (exfalso; omega) | skip) | skip) | fail)
              all_goals (exfalso; omega)
            · repeat' (first | (refine join_in (a := .seq (.region 10 _ _) _) (fun _ => []) (fun x : Nat × Placed × List Charge => [dice t x.1, zeroM, mb (slP 3 1 (List.map optsRow ([]))) nilA nilA r, obP 51 1 (List.map optsRow ([])), obP 62 6 (List.map Opt.row ([])), ob5 x.2.1.time.weeks x.2.1.time.day x.2.1.time.start x.2.1.time.len x.2.1.room (.pv (.sl 2 (x.2.2.map Charge.row)))]) (fun x => x.1 ≤ t.length ∧ (∀ i, i < x.2.2.length → chargeAt (mr r) x.2.2 i) ∧ x.2.2.length ≤ 4) ?_) | refine o1 ?_ | refine o2 ?_ | refine k1 ?_ | refine k2 ?_ | refine k3 ?_ | refine k4 ?_ | refine k6 ?_ | refine And.intro ?_ ?_ | (intro h; first | exact Bool.noConfusion h | exact nz _ h | exact nl h | (simp at h; done) | (simp at h; first | (exfalso; omega) | skip) | skip) | exact (by kernel_rfl : drawOk _ _ = true) | refine eqv_wrap (by omega) (by omega) ?_ | (change vcFun _ _ _ _ _; refine call_next 0 rfl (by assumption) (by assumption) (by omega) (by omega) ?_; intro v kq hv1 hv2 hkq) | fail)
              · rename_i v1 q1 a1 a2 a3 v2 q2 b1 b2 b3 v3 q3 d1 d2 d3
                refine loop_in (fun x : Nat × Nat × List Charge => [(12, vint .i64 x.1)]) (fun x => [dice t x.2.1, zeroM, mb (slP 3 1 (List.map optsRow ([]))) nilA nilA r, obP 51 1 (List.map optsRow ([])), obP 62 6 (List.map Opt.row ([])), ob5 (1 + v1) v2 v3 1 (v - 1) (slP 6 2 (List.map Charge.row (x.2.2))), obP 98 2 (List.map Charge.row (x.2.2))]) (fun x => x.1 ≤ r.toNat ∧ x.2.1 ≤ t.length ∧ ChQ r x.1 x.2.2) (fun x => r.toNat - x.1) (0, kq, []) ⟨Nat.zero_le _, by assumption, ChQ.nil⟩ ⟨?_, ?_⟩
                · exact back [0, 1, 2, 3, 4, 5, 6] rfl rfl (by repeat' (first | exact trivial | exact rfl | refine And.intro ?_ ?_)) (by repeat' (first | exact trivial | exact rfl | refine And.intro ?_ ?_))
                rintro ⟨u, k, chs⟩ ⟨u1, u2, u3⟩
                dsimp only at u1 u2 u3
                have hu3 := u3.len
                rcases chs with _ | ⟨h0, chs⟩
                · simp only [List.length_cons, List.length_nil] at hu3
                  dsimp only [slP, obP, zeroM, mb, ob5, nilA, List.map, List.length_cons, List.length_nil, List.length_map]
                  rcases Nat.lt_or_ge u r.toNat with hu | hu
                  · repeat' (first | ((change vcFun _ _ _ _ _; refine call_cost 0 rfl (by assumption) (by assumption) ?_; intro cn kc hcn hkc)) | refine o1 ?_ | refine o2 ?_ | refine k1 ?_ | refine k2 ?_ | refine k3 ?_ | refine k4 ?_ | refine k6 ?_ | refine And.intro ?_ ?_ | (intro h; first | exact Bool.noConfusion h | exact nz _ h | exact nl h | (simp at h; done) | (simp at h; first | (exfalso; omega) | skip) | skip) | (refine (?_ : srcLen _ = rowsLen _); rfl) | exact Nat.le_of_ble_eq_true rfl | refine eqv_wrap (by omega) (by omega) ?_ | refine eqv_to _ (app_first rfl) (eqv_to 1 rfl ?_) | (change vcFun _ _ _ _ _; refine call_one2 0 rfl (by assumption) (by assumption) (by omega) (by omega) ?_; intro bq kq hkq) | fail)
                    all_goals first
                      | (exfalso; omega)
                      | skip
                    · exact ⟨(u + 1, kq, [Charge.mk (u : Int) cn]), ⟨by show u + 1 ≤ _; omega, hkq, u3.app (by omega) (hcn.elim (fun h => by omega) id)⟩, (by show _ - (u + 1) < _; omega), back [0, 1, 2, 3, 4, 5, 8] rfl rfl (by repeat' (first | exact trivial | exact rfl | refine And.intro ?_ ?_)) (by repeat' (first | exact trivial | exact rfl | refine And.intro ?_ ?_))⟩
                    · exact ⟨(u + 1, kq, []), ⟨by show u + 1 ≤ _; omega, hkq, u3.skip⟩, (by show _ - (u + 1) < _; omega), back [0, 1, 2, 3, 4, 5, 6] rfl rfl (by repeat' (first | exact trivial | exact rfl | refine And.intro ?_ ?_)) (by repeat' (first | exact trivial | exact rfl | refine And.intro ?_ ?_))⟩
                    · exact ⟨(u + 1, kc, []), ⟨by show u + 1 ≤ _; omega, hkc, u3.skip⟩, (by show _ - (u + 1) < _; omega), back [0, 1, 2, 3, 4, 5, 6] rfl rfl (by repeat' (first | exact trivial | exact rfl | refine And.intro ?_ ?_)) (by repeat' (first | exact trivial | exact rfl | refine And.intro ?_ ?_))⟩
                  · repeat' (first | refine o1 ?_ | refine o2 ?_ | refine k1 ?_ | refine k2 ?_ | refine k3 ?_ | refine k8 ?_ | refine And.intro ?_ ?_ | (intro h; first | exact Bool.noConfusion h | exact nz _ h | exact nl h | (simp at h; done) | (simp at h; first | (exfalso; omega) | skip) | skip) | fail)
                    exact ⟨(k, ⟨⟨1 + v1, v2, v3, 1⟩, v - 1⟩, []), ⟨u2, u3.at_, by simp⟩, Ghost.trans (Ghost.shut (i := 5) (c := 5) (x := .pv (.val (.slice none 0 0))) rfl rfl rfl (by repeat' (first | trivial)) (show ¬ (5 ∈ ([] : List Nat)) by decide) (ALe.pv PLe.nil)) (back [0, 1, 2, 3, 4, 5] rfl rfl (by repeat' (first | exact trivial | exact rfl | refine And.intro ?_ ?_)) (by repeat' (first | exact trivial | exact rfl | refine And.intro ?_ ?_)))⟩
                · simp only [List.length_cons, List.length_nil] at hu3
                  dsimp only [slP, obP, zeroM, mb, ob5, nilA, List.map, List.length_cons, List.length_nil, List.length_map]
                  rcases Nat.lt_or_ge u r.toNat with hu | hu
                  · repeat' (first | ((change vcFun _ _ _ _ _; refine call_cost 0 rfl (by assumption) (by assumption) ?_; intro cn kc hcn hkc)) | (refine app_consm (f := Charge.row) (Charge.mk (u : Int) cn) rfl ?_) | refine o1 ?_ | refine o2 ?_ | refine k1 ?_ | refine k2 ?_ | refine k3 ?_ | refine k4 ?_ | refine k6 ?_ | refine And.intro ?_ ?_ | (intro h; first | exact Bool.noConfusion h | exact nz _ h | exact nl h | (simp at h; done) | (simp at h; first | (exfalso; omega) | skip) | skip) | (refine (?_ : srcLen _ = rowsLen _); rfl) | refine eqv_wrap (by omega) (by omega) ?_ | (refine (?_ : _ ≤ 140737488355328); simp [rowsLen] <;> omega) | (refine (?_ : _ ≤ 9223372036854775807); simp [rowsLen] <;> omega) | (refine (?_ : _ = rowsLen _); simp [rowsLen] <;> omega) | (change vcFun _ _ _ _ _; refine call_one2 0 rfl (by assumption) (by assumption) (by omega) (by omega) ?_; intro bq kq hkq) | fail)
                    all_goals first
                      | (exfalso; omega)
                      | skip
                    · exact ⟨(u + 1, kq, h0 :: (chs ++ [Charge.mk (u : Int) cn])), ⟨by show u + 1 ≤ _; omega, hkq, u3.app (by omega) (hcn.elim (fun h => by omega) id)⟩, (by show _ - (u + 1) < _; omega), back [0, 1, 2, 3, 4, 5, 8] rfl rfl (by repeat' (first | exact trivial | exact rfl | refine And.intro ?_ ?_)) (by repeat' (first | exact trivial | exact rfl | refine And.intro ?_ ?_))⟩
                    · exact ⟨(u + 1, kq, h0 :: chs), ⟨by show u + 1 ≤ _; omega, hkq, u3.skip⟩, (by show _ - (u + 1) < _; omega), back [0, 1, 2, 3, 4, 5, 6] rfl rfl (by repeat' (first | exact trivial | exact rfl | refine And.intro ?_ ?_)) (by repeat' (first | exact trivial | exact rfl | refine And.intro ?_ ?_))⟩
                    · exact ⟨(u + 1, kc, h0 :: chs), ⟨by show u + 1 ≤ _; omega, hkc, u3.skip⟩, (by show _ - (u + 1) < _; omega), back [0, 1, 2, 3, 4, 5, 6] rfl rfl (by repeat' (first | exact trivial | exact rfl | refine And.intro ?_ ?_)) (by repeat' (first | exact trivial | exact rfl | refine And.intro ?_ ?_))⟩
                  · repeat' (first | refine o1 ?_ | refine o2 ?_ | refine k1 ?_ | refine k2 ?_ | refine k3 ?_ | refine k8 ?_ | refine And.intro ?_ ?_ | (intro h; first | exact Bool.noConfusion h | exact nz _ h | exact nl h | (simp at h; done) | (simp at h; first | (exfalso; omega) | skip) | skip) | fail)
                    exact ⟨(k, ⟨⟨1 + v1, v2, v3, 1⟩, v - 1⟩, h0 :: chs), ⟨u2, u3.at_, by simp only [List.length_cons]; omega⟩, Ghost.trans (Ghost.shut (i := 5) (c := 5) (x := .ms 6 2 0 ((List.map Charge.row chs).length + 1)) rfl rfl rfl (by repeat' (first | (show 0 + _ ≤ List.length _; simp))) (show ¬ (5 ∈ ([6] : List Nat)) by decide) (ALe.pv (whole_le (f := Charge.row) (l := h0 :: chs) (by simp)))) (back [0, 1, 2, 3, 4, 5] rfl rfl (by repeat' (first | exact trivial | exact rfl | refine And.intro ?_ ?_)) (by repeat' (first | exact trivial | exact rfl | refine And.intro ?_ ?_)))⟩
              refine ⟨?_⟩
              rintro ⟨k, pl, chs⟩ ⟨f1, f2, f3⟩
              dsimp only at f1 f2 f3
              dsimp only [slP, obP, zeroM, mb, ob5, nilA, List.map, List.length_cons, List.length_nil, List.length_map]
              repeat' (first | refine o1 ?_ | refine o2 ?_ | refine k2 ?_ | refine And.intro ?_ ?_ | (intro h; first | exact Bool.noConfusion h | exact nz _ h | exact nl h | (simp at h; done) | (simp at h; first | (exfalso; omega) | skip) | skip) | (refine (?_ : srcLen _ = rowsLen _); rfl) | exact Nat.le_of_ble_eq_true rfl | refine eqv_wrap (by omega) (by omega) ?_ | refine eqv_to _ (app_first rfl) (eqv_to 1 rfl ?_) | fail)
              exact ⟨(n2 - 1, k, [Opt.mk pl chs]), ⟨⟨by show n2 - 1 + List.length _ ≤ 4; simp; try omega, by show 1 ≤ n2 - 1 + List.length _; simp; try omega⟩, f1, all_app (l := []) g3 (show OptQ r ⟨pl, chs⟩ from ⟨f2, f3⟩)⟩, (by show n2 - 1 < n2; omega), back [0, 1, 2, 3, 7] rfl rfl (by repeat' (first | exact trivial | exact rfl | refine And.intro ?_ ?_)) ⟨rfl, slot_eq rfl (congrArg (vint .i64) (by show _ = ((n2 - 1 : Nat) : Int); omega)), (by repeat' (first | exact trivial | exact rfl | refine And.intro ?_ ?_))⟩⟩
          · simp only [List.length_cons, List.length_nil] at g1
            dsimp only [slP, obP, zeroM, mb, ob5, nilA, List.map, List.length_cons, List.length_nil, List.length_map]
            rcases Nat.eq_zero_or_pos n2 with rfl | hn
            · repeat' (first | refine o1 ?_ | refine o2 ?_ | refine k1 ?_ | refine k2 ?_ | refine k3 ?_ | refine k8 ?_ | refine And.intro ?_ ?_ | (intro h; first | exact Bool.noConfusion h | exact nz _ h | exact nl h | (simp at h; done) | (simp at h; first | (exfalso; omega) | skip) | skip) | fail)
              exact ⟨(k, o0 :: ops), ⟨g2, by simp; try omega, by simp only [List.length_cons]; omega, g3⟩, Ghost.trans (Ghost.freeze (s := 9) rfl rfl (by repeat' (first | (show 0 + _ ≤ List.length _; simp)))) (Ghost.trans (Ghost.weak (s := 9) rfl (ALe.pv (whole_le (f := Opt.row) (l := o0 :: ops) (n := (List.map Opt.row ops).length + 1) (by simp)))) (back [0, 1, 2, 3] rfl rfl (by repeat' (first | exact trivial | exact rfl | refine And.intro ?_ ?_)) (by repeat' (first | exact trivial | exact rfl | refine And.intro ?_ ?_))))⟩
            · repeat' (first | (refine join_in (a := .seq (.region 10 _ _) _) (fun _ => []) (fun x : Nat × Placed × List Charge => [dice t x.1, zeroM, mb (slP 3 1 (List.map optsRow ([]))) nilA nilA r, obP 51 1 (List.map optsRow ([])), obP 62 6 (List.map Opt.row (o0 :: ops)), ob5 x.2.1.time.weeks x.2.1.time.day x.2.1.time.start x.2.1.time.len x.2.1.room (.pv (.sl 2 (x.2.2.map Charge.row)))]) (fun x => x.1 ≤ t.length ∧ (∀ i, i < x.2.2.length → chargeAt (mr r) x.2.2 i) ∧ x.2.2.length ≤ 4) ?_) | refine o1 ?_ | refine o2 ?_ | refine k1 ?_ | refine k2 ?_ | refine k3 ?_ | refine k4 ?_ | refine k6 ?_ | refine And.intro ?_ ?_ | (intro h; first | exact Bool.noConfusion h | exact nz _ h | exact nl h | (simp at h; done) | (simp at h; first | (exfalso; omega) | skip) | skip) | exact (by kernel_rfl : drawOk _ _ = true) | refine eqv_wrap (by omega) (by omega) ?_ | (change vcFun _ _ _ _ _; refine call_next 0 rfl (by assumption) (by assumption) (by omega) (by omega) ?_; intro v kq hv1 hv2 hkq) | fail)
              · rename_i v1 q1 a1 a2 a3 v2 q2 b1 b2 b3 v3 q3 d1 d2 d3
                refine loop_in (fun x : Nat × Nat × List Charge => [(12, vint .i64 x.1)]) (fun x => [dice t x.2.1, zeroM, mb (slP 3 1 (List.map optsRow ([]))) nilA nilA r, obP 51 1 (List.map optsRow ([])), obP 62 6 (List.map Opt.row (o0 :: ops)), ob5 (1 + v1) v2 v3 1 (v - 1) (slP 6 2 (List.map Charge.row (x.2.2))), obP 98 2 (List.map Charge.row (x.2.2))]) (fun x => x.1 ≤ r.toNat ∧ x.2.1 ≤ t.length ∧ ChQ r x.1 x.2.2) (fun x => r.toNat - x.1) (0, kq, []) ⟨Nat.zero_le _, by assumption, ChQ.nil⟩ ⟨?_, ?_⟩
                · exact back [0, 1, 2, 3, 4, 5, 6] rfl rfl (by repeat' (first | exact trivial | exact rfl | refine And.intro ?_ ?_)) (by repeat' (first | exact trivial | exact rfl | refine And.intro ?_ ?_))
                rintro ⟨u, k, chs⟩ ⟨u1, u2, u3⟩
                dsimp only at u1 u2 u3
                have hu3 := u3.len
                rcases chs with _ | ⟨h0, chs⟩
                · simp only [List.length_cons, List.length_nil] at hu3
                  dsimp only [slP, obP, zeroM, mb, ob5, nilA, List.map, List.length_cons, List.length_nil, List.length_map]
                  rcases Nat.lt_or_ge u r.toNat with hu | hu
                  · repeat' (first | ((change vcFun _ _ _ _ _; refine call_cost 0 rfl (by assumption) (by assumption) ?_; intro cn kc hcn hkc)) | refine o1 ?_ | refine o2 ?_ | refine k1 ?_ | refine k2 ?_ | refine k3 ?_ | refine k4 ?_ | refine k6 ?_ | refine And.intro ?_ ?_ | (intro h; first | exact Bool.noConfusion h | exact nz _ h | exact nl h | (simp at h; done) | (simp at h; first | (exfalso; omega) | skip) | skip) | (refine (?_ : srcLen _ = rowsLen _); rfl) | exact Nat.le_of_ble_eq_true rfl | refine eqv_wrap (by omega) (by omega) ?_ | refine eqv_to _ (app_first rfl) (eqv_to 1 rfl ?_) | (change vcFun _ _ _ _ _; refine call_one2 0 rfl (by assumption) (by assumption) (by omega) (by omega) ?_; intro bq kq hkq) | fail)
                    all_goals first
                      | (exfalso; omega)
                      | skip
                    · exact ⟨(u + 1, kq, [Charge.mk (u : Int) cn]), ⟨by show u + 1 ≤ _; omega, hkq, u3.app (by omega) (hcn.elim (fun h => by omega) id)⟩, (by show _ - (u + 1) < _; omega), back [0, 1, 2, 3, 4, 5, 8] rfl rfl (by repeat' (first | exact trivial | exact rfl | refine And.intro ?_ ?_)) (by repeat' (first | exact trivial | exact rfl | refine And.intro ?_ ?_))⟩
                    · exact ⟨(u + 1, kq, []), ⟨by show u + 1 ≤ _; omega, hkq, u3.skip⟩, (by show _ - (u + 1) < _; omega), back [0, 1, 2, 3, 4, 5, 6] rfl rfl (by repeat' (first | exact trivial | exact rfl | refine And.intro ?_ ?_)) (by repeat' (first | exact trivial | exact rfl | refine And.intro ?_ ?_))⟩
                    · exact ⟨(u + 1, kc, []), ⟨by show u + 1 ≤ _; omega, hkc, u3.skip⟩, (by show _ - (u + 1) < _; omega), back [0, 1, 2, 3, 4, 5, 6] rfl rfl (by repeat' (first | exact trivial | exact rfl | refine And.intro ?_ ?_)) (by repeat' (first | exact trivial | exact rfl | refine And.intro ?_ ?_))⟩
                  · repeat' (first | refine o1 ?_ | refine o2 ?_ | refine k1 ?_ | refine k2 ?_ | refine k3 ?_ | refine k8 ?_ | refine And.intro ?_ ?_ | (intro h; first | exact Bool.noConfusion h | exact nz _ h | exact nl h | (simp at h; done) | (simp at h; first | (exfalso; omega) | skip) | skip) | fail)
                    exact ⟨(k, ⟨⟨1 + v1, v2, v3, 1⟩, v - 1⟩, []), ⟨u2, u3.at_, by simp⟩, Ghost.trans (Ghost.shut (i := 5) (c := 5) (x := .pv (.val (.slice none 0 0))) rfl rfl rfl (by repeat' (first | trivial)) (show ¬ (5 ∈ ([] : List Nat)) by decide) (ALe.pv PLe.nil)) (back [0, 1, 2, 3, 4, 5] rfl rfl (by repeat' (first | exact trivial | exact rfl | refine And.intro ?_ ?_)) (by repeat' (first | exact trivial | exact rfl | refine And.intro ?_ ?_)))⟩
                · simp only [List.length_cons, List.length_nil] at hu3
                  dsimp only [slP, obP, zeroM, mb, ob5, nilA, List.map, List.length_cons, List.length_nil, List.length_map]
                  rcases Nat.lt_or_ge u r.toNat with hu | hu
                  · repeat' (first | ((change vcFun _ _ _ _ _; refine call_cost 0 rfl (by assumption) (by assumption) ?_; intro cn kc hcn hkc)) | (refine app_consm (f := Charge.row) (Charge.mk (u : Int) cn) rfl ?_) | refine o1 ?_ | refine o2 ?_ | refine k1 ?_ | refine k2 ?_ | refine k3 ?_ | refine k4 ?_ | refine k6 ?_ | refine And.intro ?_ ?_ | (intro h; first | exact Bool.noConfusion h | exact nz _ h | exact nl h | (simp at h; done) | (simp at h; first | (exfalso; omega) | skip) | skip) | (refine (?_ : srcLen _ = rowsLen _); rfl) | refine eqv_wrap (by omega) (by omega) ?_ | (refine (?_ : _ ≤ 140737488355328); simp [rowsLen] <;> omega) | (refine (?_ : _ ≤ 9223372036854775807); simp [rowsLen] <;> omega) | (refine (?_ : _ = rowsLen _); simp [rowsLen] <;> omega) | (change vcFun _ _ _ _ _; refine call_one2 0 rfl (by assumption) (by assumption) (by omega) (by omega) ?_; intro bq kq hkq) | fail)
                    all_goals first
                      | (exfalso; omega)
                      | skip
                    · exact ⟨(u + 1, kq, h0 :: (chs ++ [Charge.mk (u : Int) cn])), ⟨by show u + 1 ≤ _; omega, hkq, u3.app (by omega) (hcn.elim (fun h => by omega) id)⟩, (by show _ - (u + 1) < _; omega), back [0, 1, 2, 3, 4, 5, 8] rfl rfl (by repeat' (first | exact trivial | exact rfl | refine And.intro ?_ ?_)) (by repeat' (first | exact trivial | exact rfl | refine And.intro ?_ ?_))⟩
                    · exact ⟨(u + 1, kq, h0 :: chs), ⟨by show u + 1 ≤ _; omega, hkq, u3.skip⟩, (by show _ - (u + 1) < _; omega), back [0, 1, 2, 3, 4, 5, 6] rfl rfl (by repeat' (first | exact trivial | exact rfl | refine And.intro ?_ ?_)) (by repeat' (first | exact trivial | exact rfl | refine And.intro ?_ ?_))⟩
                    · exact ⟨(u + 1, kc, h0 :: chs), ⟨by show u + 1 ≤ _; omega, hkc, u3.skip⟩, (by show _ - (u + 1) < _; omega), back [0, 1, 2, 3, 4, 5, 6] rfl rfl (by repeat' (first | exact trivial | exact rfl | refine And.intro ?_ ?_)) (by repeat' (first | exact trivial | exact rfl | refine And.intro ?_ ?_))⟩
                  · repeat' (first | refine o1 ?_ | refine o2 ?_ | refine k1 ?_ | refine k2 ?_ | refine k3 ?_ | refine k8 ?_ | refine And.intro ?_ ?_ | (intro h; first | exact Bool.noConfusion h | exact nz _ h | exact nl h | (simp at h; done) | (simp at h; first | (exfalso; omega) | skip) | skip) | fail)
                    exact ⟨(k, ⟨⟨1 + v1, v2, v3, 1⟩, v - 1⟩, h0 :: chs), ⟨u2, u3.at_, by simp only [List.length_cons]; omega⟩, Ghost.trans (Ghost.shut (i := 5) (c := 5) (x := .ms 6 2 0 ((List.map Charge.row chs).length + 1)) rfl rfl rfl (by repeat' (first | (show 0 + _ ≤ List.length _; simp))) (show ¬ (5 ∈ ([6] : List Nat)) by decide) (ALe.pv (whole_le (f := Charge.row) (l := h0 :: chs) (by simp)))) (back [0, 1, 2, 3, 4, 5] rfl rfl (by repeat' (first | exact trivial | exact rfl | refine And.intro ?_ ?_)) (by repeat' (first | exact trivial | exact rfl | refine And.intro ?_ ?_)))⟩
              refine ⟨?_⟩
              rintro ⟨k, pl, chs⟩ ⟨f1, f2, f3⟩
              dsimp only at f1 f2 f3
              dsimp only [slP, obP, zeroM, mb, ob5, nilA, List.map, List.length_cons, List.length_nil, List.length_map]
              repeat' (first | (refine app_consm (f := Opt.row) ⟨pl, chs⟩ rfl ?_) | refine o1 ?_ | refine o2 ?_ | refine k2 ?_ | refine And.intro ?_ ?_ | (refine (?_ : srcLen _ = rowsLen _); rfl) | refine eqv_wrap (by omega) (by omega) ?_ | (refine (?_ : _ ≤ 140737488355328); simp [rowsLen] <;> omega) | (refine (?_ : _ ≤ 9223372036854775807); simp [rowsLen] <;> omega) | (refine (?_ : _ = rowsLen _); simp [rowsLen] <;> omega) | fail)
              exact ⟨(n2 - 1, k, o0 :: (ops ++ [Opt.mk pl chs])), ⟨⟨by show n2 - 1 + List.length _ ≤ 4; simp; try omega, by show 1 ≤ n2 - 1 + List.length _; simp; try omega⟩, f1, all_app (l := o0 :: ops) g3 (show OptQ r ⟨pl, chs⟩ from ⟨f2, f3⟩)⟩, (by show n2 - 1 < n2; omega), back [0, 1, 2, 3, 7] rfl rfl (by repeat' (first | exact trivial | exact rfl | refine And.intro ?_ ?_)) ⟨rfl, slot_eq rfl (congrArg (vint .i64) (by show _ = ((n2 - 1 : Nat) : Int); omega)), (by repeat' (first | exact trivial | exact rfl | refine And.intro ?_ ?_))⟩⟩
        refine ⟨?_⟩
        rintro ⟨k, ops⟩ ⟨e1, e2, e3, e4⟩
        dsimp only at e1 e2 e3 e4
        dsimp only [slP, obP, zeroM, mb, ob5, nilA, List.map, List.length_cons, List.length_nil, List.length_map]
        repeat' (first | refine o1 ?_ | refine o2 ?_ | refine k2 ?_ | refine And.intro ?_ ?_ | (intro h; first | exact Bool.noConfusion h | exact nz _ h | exact nl h | (simp at h; done) | (simp at h; first | (exfalso; omega) | skip) | skip) | (refine (?_ : srcLen _ = rowsLen _); rfl) | exact Nat.le_of_ble_eq_true rfl | refine eqv_wrap (by omega) (by omega) ?_ | refine eqv_to _ (app_first rfl) (eqv_to 1 rfl ?_) | fail)
        exact ⟨(n - 1, k, [ops]), ⟨by show n - 1 + List.length _ ≤ 5; simp; try omega, e1, all_app (l := []) c3 (show ClsQ r ops from ⟨e2, e3, e4⟩)⟩, (by show n - 1 < n; omega), back [0, 1, 2, 5] rfl rfl (by repeat' (first | exact trivial | exact rfl | refine And.intro ?_ ?_)) ⟨slot_eq rfl (congrArg (vint .i64) (by show _ = ((n - 1 : Nat) : Int); omega)), (by repeat' (first | exact trivial | exact rfl | refine And.intro ?_ ?_))⟩⟩
    · simp only [List.length_cons, List.length_nil] at c1
      dsimp only [slP, obP, zeroM, mb, ob5, nilA, List.map, List.length_cons, List.length_nil, List.length_map]
      rcases Nat.eq_zero_or_pos n with rfl | hn
      · repeat' (first | refine o1 ?_ | refine o2 ?_ | refine k1 ?_ | refine k2 ?_ | refine k3 ?_ | refine k8 ?_ | refine And.intro ?_ ?_ | (intro h; first | exact Bool.noConfusion h | exact nz _ h | exact nl h | (simp at h; done) | (simp at h; first | (exfalso; omega) | skip) | skip) | fail)
        exact ⟨(k, c0 :: cls), ⟨c2, by simp only [List.length_cons]; omega, c3⟩, Ghost.trans (Ghost.shut (i := 2) (c := 0) (x := .ms 3 1 0 ((List.map optsRow cls).length + 1)) rfl rfl rfl (by repeat' (first | (show 0 + _ ≤ List.length _; simp))) (show ¬ (2 ∈ ([3] : List Nat)) by decide) (ALe.pv (whole_le (f := optsRow) (l := c0 :: cls) (by simp)))) (back [0, 1, 2] rfl rfl (by repeat' (first | exact trivial | exact rfl | refine And.intro ?_ ?_)) (by repeat' (first | exact trivial | exact rfl | refine And.intro ?_ ?_)))⟩
      · repeat' (first | (refine join_in (a := .seq (.region 6 _ _) _) (fun x : Nat × List Opt => [(9, .pv (.sl 6 (x.2.map Opt.row)))]) (fun x => [dice t x.1, zeroM, mb (slP 3 1 (List.map optsRow (c0 :: cls))) nilA nilA r, obP 51 1 (List.map optsRow (c0 :: cls))]) (fun x => x.1 ≤ t.length ∧ 1 ≤ x.2.length ∧ x.2.length ≤ 4 ∧ ∀ o ∈ x.2, OptQ r o) ?_) | refine o1 ?_ | refine o2 ?_ | refine k1 ?_ | refine k2 ?_ | refine k3 ?_ | refine k4 ?_ | refine k6 ?_ | refine And.intro ?_ ?_ | (intro h; first | exact Bool.noConfusion h | exact nz _ h | exact nl h | (simp at h; done) | (simp at h; first | (exfalso; omega) | skip) | skip) | refine eqv_wrap (by omega) (by omega) ?_ | (change vcFun _ _ _ _ _; refine call_next 0 rfl (by assumption) (by assumption) (by omega) (by omega) ?_; intro v kq hv1 hv2 hkq) | fail)
        · refine loop_in (fun x : Nat × Nat × List Opt => [(9, slP 4 6 (List.map Opt.row (x.2.2))), (10, vint .i64 x.1)]) (fun x => [dice t x.2.1, zeroM, mb (slP 3 1 (List.map optsRow (c0 :: cls))) nilA nilA r, obP 51 1 (List.map optsRow (c0 :: cls)), obP 62 6 (List.map Opt.row (x.2.2))]) (fun x => (x.1 + x.2.2.length ≤ 4 ∧ 1 ≤ x.1 + x.2.2.length) ∧ x.2.1 ≤ t.length ∧ ∀ o ∈ x.2.2, OptQ r o) (fun x => x.1) ((1 + v).toNat, kq, []) ⟨by simp; omega, hkq, fun o ho => absurd ho List.not_mem_nil⟩ ⟨?_, ?_⟩
          · exact back [0, 1, 2, 3, 4] rfl rfl (by repeat' (first | exact trivial | exact rfl | refine And.intro ?_ ?_)) ⟨rfl, slot_eq rfl (congrArg (vint .i64) (by show _ = (((1 + v).toNat : Nat) : Int); omega)), (by repeat' (first | exact trivial | exact rfl | refine And.intro ?_ ?_))⟩
          rintro ⟨n2, k, ops⟩ ⟨g1, g2, g3⟩
          dsimp only at g1 g2 g3
          rcases ops with _ | ⟨o0, ops⟩
          · simp only [List.length_cons, List.length_nil] at g1
            dsimp only [slP, obP, zeroM, mb, ob5, nilA, List.map, List.length_cons, List.length_nil, List.length_map]
            rcases Nat.eq_zero_or_pos n2 with rfl | hn
            · repeat' (first | refine o1 ?_ | refine o2 ?_ | refine k1 ?_ | refine k2 ?_ | refine k3 ?_ | refine And.intro ?_ ?_ | (intro h; first | exact Bool.noConfusion h | exact nz _ h | exact nl h | (simp at h; done) | (simp at h; first | (exfalso; omega) | skip) | skip) | fail)
              all_goals (exfalso; omega)
            · repeat' (first | (refine join_in (a := .seq (.region 10 _ _) _) (fun _ => []) (fun x : Nat × Placed × List Charge => [dice t x.1, zeroM, mb (slP 3 1 (List.map optsRow (c0 :: cls))) nilA nilA r, obP 51 1 (List.map optsRow (c0 :: cls)), obP 62 6 (List.map Opt.row ([])), ob5 x.2.1.time.weeks x.2.1.time.day x.2.1.time.start x.2.1.time.len x.2.1.room (.pv (.sl 2 (x.2.2.map Charge.row)))]) (fun x => x.1 ≤ t.length ∧ (∀ i, i < x.2.2.length → chargeAt (mr r) x.2.2 i) ∧ x.2.2.length ≤ 4) ?_) | refine o1 ?_ | refine o2 ?_ | refine k1 ?_ | refine k2 ?_ | refine k3 ?_ | refine k4 ?_ | refine k6 ?_ | refine And.intro ?_ ?_ | (intro h; first | exact Bool.noConfusion h | exact nz _ h | exact nl h | (simp at h; done) | (simp at h; first | (exfalso; omega) | skip) | skip) | exact (by kernel_rfl : drawOk _ _ = true) | refine eqv_wrap (by omega) (by omega) ?_ | (change vcFun _ _ _ _ _; refine call_next 0 rfl (by assumption) (by assumption) (by omega) (by omega) ?_; intro v kq hv1 hv2 hkq) | fail)
              · rename_i v1 q1 a1 a2 a3 v2 q2 b1 b2 b3 v3 q3 d1 d2 d3
                refine loop_in (fun x : Nat × Nat × List Charge => [(12, vint .i64 x.1)]) (fun x => [dice t x.2.1, zeroM, mb (slP 3 1 (List.map optsRow (c0 :: cls))) nilA nilA r, obP 51 1 (List.map optsRow (c0 :: cls)), obP 62 6 (List.map Opt.row ([])), ob5 (1 + v1) v2 v3 1 (v - 1) (slP 6 2 (List.map Charge.row (x.2.2))), obP 98 2 (List.map Charge.row (x.2.2))]) (fun x => x.1 ≤ r.toNat ∧ x.2.1 ≤ t.length ∧ ChQ r x.1 x.2.2) (fun x => r.toNat - x.1) (0, kq, []) ⟨Nat.zero_le _, by assumption, ChQ.nil⟩ ⟨?_, ?_⟩
                · exact back [0, 1, 2, 3, 4, 5, 6] rfl rfl (by repeat' (first | exact trivial | exact rfl | refine And.intro ?_ ?_)) (by repeat' (first | exact trivial | exact rfl | refine And.intro ?_ ?_))
                rintro ⟨u, k, chs⟩ ⟨u1, u2, u3⟩
                dsimp only at u1 u2 u3
                have hu3 := u3.len
                rcases chs with _ | ⟨h0, chs⟩
                · simp only [List.length_cons, List.length_nil] at hu3
                  dsimp only [slP, obP, zeroM, mb, ob5, nilA, List.map, List.length_cons, List.length_nil, List.length_map]
                  rcases Nat.lt_or_ge u r.toNat with hu | hu
                  · repeat' (first | ((change vcFun _ _ _ _ _; refine call_cost 0 rfl (by assumption) (by assumption) ?_; intro cn kc hcn hkc)) | refine o1 ?_ | refine o2 ?_ | refine k1 ?_ | refine k2 ?_ | refine k3 ?_ | refine k4 ?_ | refine k6 ?_ | refine And.intro ?_ ?_ | (intro h; first | exact Bool.noConfusion h | exact nz _ h | exact nl h | (simp at h; done) | (simp at h; first | (exfalso; omega) | skip) | skip) | (refine (?_ : srcLen _ = rowsLen _); rfl) | exact Nat.le_of_ble_eq_true rfl | refine eqv_wrap (by omega) (by omega) ?_ | refine eqv_to _ (app_first rfl) (eqv_to 1 rfl ?_) | (change vcFun _ _ _ _ _; refine call_one2 0 rfl (by assumption) (by assumption) (by omega) (by omega) ?_; intro bq kq hkq) | fail)
                    all_goals first
                      | (exfalso; omega)
                      | skip
                    · exact ⟨(u + 1, kq, [Charge.mk (u : Int) cn]), ⟨by show u + 1 ≤ _; omega, hkq, u3.app (by omega) (hcn.elim (fun h => by omega) id)⟩, (by show _ - (u + 1) < _; omega), back [0, 1, 2, 3, 4, 5, 8] rfl rfl (by repeat' (first | exact trivial | exact rfl | refine And.intro ?_ ?_)) (by repeat' (first | exact trivial | exact rfl | refine And.intro ?_ ?_))⟩
                    · exact ⟨(u + 1, kq, []), ⟨by show u + 1 ≤ _; omega, hkq, u3.skip⟩, (by show _ - (u + 1) < _; omega), back [0, 1, 2, 3, 4, 5, 6] rfl rfl (by repeat' (first | exact trivial | exact rfl | refine And.intro ?_ ?_)) (by repeat' (first | exact trivial | exact rfl | refine And.intro ?_ ?_))⟩
                    · exact ⟨(u + 1, kc, []), ⟨by show u + 1 ≤ _; omega, hkc, u3.skip⟩, (by show _ - (u + 1) < _; omega), back [0, 1, 2, 3, 4, 5, 6] rfl rfl (by repeat' (first | exact trivial | exact rfl | refine And.intro ?_ ?_)) (by repeat' (first | exact trivial | exact rfl | refine And.intro ?_ ?_))⟩
                  · repeat' (first | refine o1 ?_ | refine o2 ?_ | refine k1 ?_ | refine k2 ?_ | refine k3 ?_ | refine k8 ?_ | refine And.intro ?_ ?_ | (intro h; first | exact Bool.noConfusion h | exact nz _ h | exact nl h | (simp at h; done) | (simp at h; first | (exfalso; omega) | skip) | skip) | fail)
                    exact ⟨(k, ⟨⟨1 + v1, v2, v3, 1⟩, v - 1⟩, []), ⟨u2, u3.at_, by simp⟩, Ghost.trans (Ghost.shut (i := 5) (c := 5) (x := .pv (.val (.slice none 0 0))) rfl rfl rfl (by repeat' (first | trivial)) (show ¬ (5 ∈ ([] : List Nat)) by decide) (ALe.pv PLe.nil)) (back [0, 1, 2, 3, 4, 5] rfl rfl (by repeat' (first | exact trivial | exact rfl | refine And.intro ?_ ?_)) (by repeat' (first | exact trivial | exact rfl | refine And.intro ?_ ?_)))⟩
                · simp only [List.length_cons, List.length_nil] at hu3
                  dsimp only [slP, obP, zeroM, mb, ob5, nilA, List.map, List.length_cons, List.length_nil, List.length_map]
                  rcases Nat.lt_or_ge u r.toNat with hu | hu
                  · repeat' (first | ((change vcFun _ _ _ _ _; refine call_cost 0 rfl (by assumption) (by assumption) ?_; intro cn kc hcn hkc)) | (refine app_consm (f := Charge.row) (Charge.mk (u : Int) cn) rfl ?_) | refine o1 ?_ | refine o2 ?_ | refine k1 ?_ | refine k2 ?_ | refine k3 ?_ | refine k4 ?_ | refine k6 ?_ | refine And.intro ?_ ?_ | (intro h; first | exact Bool.noConfusion h | exact nz _ h | exact nl h | (simp at h; done) | (simp at h; first | (exfalso; omega) | skip) | skip) | (refine (?_ : srcLen _ = rowsLen _); rfl) | refine eqv_wrap (by omega) (by omega) ?_ | (refine (?_ : _ ≤ 140737488355328); simp [rowsLen] <;> omega) | (refine (?_ : _ ≤ 9223372036854775807); simp [rowsLen] <;> omega) | (refine (?_ : _ = rowsLen _); simp [rowsLen] <;> omega) | (change vcFun _ _ _ _ _; refine call_one2 0 rfl (by assumption) (by assumption) (by omega) (by omega) ?_; intro bq kq hkq) | fail)
                    all_goals first
                      | (exfalso; omega)
                      | skip
                    · exact ⟨(u + 1, kq, h0 :: (chs ++ [Charge.mk (u : Int) cn])), ⟨by show u + 1 ≤ _; omega, hkq, u3.app (by omega) (hcn.elim (fun h => by omega) id)⟩, (by show _ - (u + 1) < _; omega), back [0, 1, 2, 3, 4, 5, 8] rfl rfl (by repeat' (first | exact trivial | exact rfl | refine And.intro ?_ ?_)) (by repeat' (first | exact trivial | exact rfl | refine And.intro ?_ ?_))⟩
                    · exact ⟨(u + 1, kq, h0 :: chs), ⟨by show u + 1 ≤ _; omega, hkq, u3.skip⟩, (by show _ - (u + 1) < _; omega), back [0, 1, 2, 3, 4, 5, 6] rfl rfl (by repeat' (first | exact trivial | exact rfl | refine And.intro ?_ ?_)) (by repeat' (first | exact trivial | exact rfl | refine And.intro ?_ ?_))⟩
                    · exact ⟨(u + 1, kc, h0 :: chs), ⟨by show u + 1 ≤ _; omega, hkc, u3.skip⟩, (by show _ - (u + 1) < _; omega), back [0, 1, 2, 3, 4, 5, 6] rfl rfl (by repeat' (first | exact trivial | exact rfl | refine And.intro ?_ ?_)) (by repeat' (first | exact trivial | exact rfl | refine And.intro ?_ ?_))⟩
                  · repeat' (first | refine o1 ?_ | refine o2 ?_ | refine k1 ?_ | refine k2 ?_ | refine k3 ?_ | refine k8 ?_ | refine And.intro ?_ ?_ | (intro h; first | exact Bool.noConfusion h | exact nz _ h | exact nl h | (simp at h; done) | (simp at h; first | (exfalso; omega) | skip) | skip) | fail)
                    exact ⟨(k, ⟨⟨1 + v1, v2, v3, 1⟩, v - 1⟩, h0 :: chs), ⟨u2, u3.at_, by simp only [List.length_cons]; omega⟩, Ghost.trans (Ghost.shut (i := 5) (c := 5) (x := .ms 6 2 0 ((List.map Charge.row chs).length + 1)) rfl rfl rfl (by repeat' (first | (show 0 + _ ≤ List.length _; simp))) (show ¬ (5 ∈ ([6] : List Nat)) by decide) (ALe.pv (whole_le (f := Charge.row) (l := h0 :: chs) (by simp)))) (back [0, 1, 2, 3, 4, 5] rfl rfl (by repeat' (first | exact trivial | exact rfl | refine And.intro ?_ ?_)) (by repeat' (first | exact trivial | exact rfl | refine And.intro ?_ ?_)))⟩
              refine ⟨?_⟩
              rintro ⟨k, pl, chs⟩ ⟨f1, f2, f3⟩
              dsimp only at f1 f2 f3
              dsimp only [slP, obP, zeroM, mb, ob5, nilA, List.map, List.length_cons, List.length_nil, List.length_map]
              repeat' (first | refine o1 ?_ | refine o2 ?_ | refine k2 ?_ | refine And.intro ?_ ?_ | (intro h; first | exact Bool.noConfusion h | exact nz _ h | exact nl h | (simp at h; done) | (simp at h; first | (exfalso; omega) | skip) | skip) | (refine (?_ : srcLen _ = rowsLen _); rfl) | exact Nat.le_of_ble_eq_true rfl | refine eqv_wrap (by omega) (by omega) ?_ | refine eqv_to _ (app_first rfl) (eqv_to 1 rfl ?_) | fail)
              exact ⟨(n2 - 1, k, [Opt.mk pl chs]), ⟨⟨by show n2 - 1 + List.length _ ≤ 4; simp; try omega, by show 1 ≤ n2 - 1 + List.length _; simp; try omega⟩, f1, all_app (l := []) g3 (show OptQ r ⟨pl, chs⟩ from ⟨f2, f3⟩)⟩, (by show n2 - 1 < n2; omega), back [0, 1, 2, 3, 7] rfl rfl (by repeat' (first | exact trivial | exact rfl | refine And.intro ?_ ?_)) ⟨rfl, slot_eq rfl (congrArg (vint .i64) (by show _ = ((n2 - 1 : Nat) : Int); omega)), (by repeat' (first | exact trivial | exact rfl | refine And.intro ?_ ?_))⟩⟩
          · simp only [List.length_cons, List.length_nil] at g1
            dsimp only [slP, obP, zeroM, mb, ob5, nilA, List.map, List.length_cons, List.length_nil, List.length_map]
            rcases Nat.eq_zero_or_pos n2 with rfl | hn
            · repeat' (first | refine o1 ?_ | refine o2 ?_ | refine k1 ?_ | refine k2 ?_ | refine k3 ?_ | refine k8 ?_ | refine And.intro ?_ ?_ | (intro h; first | exact Bool.noConfusion h | exact nz _ h | exact nl h | (simp at h; done) | (simp at h; first | (exfalso; omega) | skip) | skip) | fail)
              exact ⟨(k, o0 :: ops), ⟨g2, by simp; try omega, by simp only [List.length_cons]; omega, g3⟩, Ghost.trans (Ghost.freeze (s := 9) rfl rfl (by repeat' (first | (show 0 + _ ≤ List.length _; simp)))) (Ghost.trans (Ghost.weak (s := 9) rfl (ALe.pv (whole_le (f := Opt.row) (l := o0 :: ops) (n := (List.map Opt.row ops).length + 1) (by simp)))) (back [0, 1, 2, 3] rfl rfl (by repeat' (first | exact trivial | exact rfl | refine And.intro ?_ ?_)) (by repeat' (first | exact trivial | exact rfl | refine And.intro ?_ ?_))))⟩
            · repeat' (first | (refine join_in (a := .seq (.region 10 _ _) _) (fun _ => []) (fun x : Nat × Placed × List Charge => [dice t x.1, zeroM, mb (slP 3 1 (List.map optsRow (c0 :: cls))) nilA nilA r, obP 51 1 (List.map optsRow (c0 :: cls)), obP 62 6 (List.map Opt.row (o0 :: ops)), ob5 x.2.1.time.weeks x.2.1.time.day x.2.1.time.start x.2.1.time.len x.2.1.room (.pv (.sl 2 (x.2.2.map Charge.row)))]) (fun x => x.1 ≤ t.length ∧ (∀ i, i < x.2.2.length → chargeAt (mr r) x.2.2 i) ∧ x.2.2.length ≤ 4) ?_) | refine o1 ?_ | refine o2 ?_ | refine k1 ?_ | refine k2 ?_ | refine k3 ?_ | refine k4 ?_ | refine k6 ?_ | refine And.intro ?_ ?_ | (intro h; first | exact Bool.noConfusion h | exact nz _ h | exact nl h | (simp at h; done) | (simp at h; first | (exfalso; omega) | skip) | skip) | exact (by kernel_rfl : drawOk _ _ = true) | refine eqv_wrap (by omega) (by omega) ?_ | (change vcFun _ _ _ _ _; refine call_next 0 rfl (by assumption) (by assumption) (by omega) (by omega) ?_; intro v kq hv1 hv2 hkq) | fail)
              · rename_i v1 q1 a1 a2 a3 v2 q2 b1 b2 b3 v3 q3 d1 d2 d3
                refine loop_in (fun x : Nat × Nat × List Charge => [(12, vint .i64 x.1)]) (fun x => [dice t x.2.1, zeroM, mb (slP 3 1 (List.map optsRow (c0 :: cls))) nilA nilA r, obP 51 1 (List.map optsRow (c0 :: cls)), obP 62 6 (List.map Opt.row (o0 :: ops)), ob5 (1 + v1) v2 v3 1 (v - 1) (slP 6 2 (List.map Charge.row (x.2.2))), obP 98 2 (List.map Charge.row (x.2.2))]) (fun x => x.1 ≤ r.toNat ∧ x.2.1 ≤ t.length ∧ ChQ r x.1 x.2.2) (fun x => r.toNat - x.1) (0, kq, []) ⟨Nat.zero_le _, by assumption, ChQ.nil⟩ ⟨?_, ?_⟩
                · exact back [0, 1, 2, 3, 4, 5, 6] rfl rfl (by repeat' (first | exact trivial | exact rfl | refine And.intro ?_ ?_)) (by repeat' (first | exact trivial | exact rfl | refine And.intro ?_ ?_))
                rintro ⟨u, k, chs⟩ ⟨u1, u2, u3⟩
                dsimp only at u1 u2 u3
                have hu3 := u3.len
                rcases chs with _ | ⟨h0, chs⟩
                · simp only [List.length_cons, List.length_nil] at hu3
                  dsimp only [slP, obP, zeroM, mb, ob5, nilA, List.map, List.length_cons, List.length_nil, List.length_map]
                  rcases Nat.lt_or_ge u r.toNat with hu | hu
                  · repeat' (first | ((change vcFun _ _ _ _ _; refine call_cost 0 rfl (by assumption) (by assumption) ?_; intro cn kc hcn hkc)) | refine o1 ?_ | refine o2 ?_ | refine k1 ?_ | refine k2 ?_ | refine k3 ?_ | refine k4 ?_ | refine k6 ?_ | refine And.intro ?_ ?_ | (intro h; first | exact Bool.noConfusion h | exact nz _ h | exact nl h | (simp at h; done) | (simp at h; first | (exfalso; omega) | skip) | skip) | (refine (?_ : srcLen _ = rowsLen _); rfl) | exact Nat.le_of_ble_eq_true rfl | refine eqv_wrap (by omega) (by omega) ?_ | refine eqv_to _ (app_first rfl) (eqv_to 1 rfl ?_) | (change vcFun _ _ _ _ _; refine call_one2 0 rfl (by assumption) (by assumption) (by omega) (by omega) ?_; intro bq kq hkq) | fail)
                    all_goals first
                      | (exfalso; omega)
                      | skip
                    · exact ⟨(u + 1, kq, [Charge.mk (u : Int) cn]), ⟨by show u + 1 ≤ _; omega, hkq, u3.app (by omega) (hcn.elim (fun h => by omega) id)⟩, (by show _ - (u + 1) < _; omega), back [0, 1, 2, 3, 4, 5, 8] rfl rfl (by repeat' (first | exact trivial | exact rfl | refine And.intro ?_ ?_)) (by repeat' (first | exact trivial | exact rfl | refine And.intro ?_ ?_))⟩
                    · exact ⟨(u + 1, kq, []), ⟨by show u + 1 ≤ _; omega, hkq, u3.skip⟩, (by show _ - (u + 1) < _; omega), back [0, 1, 2, 3, 4, 5, 6] rfl rfl (by repeat' (first | exact trivial | exact rfl | refine And.intro ?_ ?_)) (by repeat' (first | exact trivial | exact rfl | refine And.intro ?_ ?_))⟩
                    · exact ⟨(u + 1, kc, []), ⟨by show u + 1 ≤ _; omega, hkc, u3.skip⟩, (by show _ - (u + 1) < _; omega), back [0, 1, 2, 3, 4, 5, 6] rfl rfl (by repeat' (first | exact trivial | exact rfl | refine And.intro ?_ ?_)) (by repeat' (first | exact trivial | exact rfl | refine And.intro ?_ ?_))⟩
                  · repeat' (first | refine o1 ?_ | refine o2 ?_ | refine k1 ?_ | refine k2 ?_ | refine k3 ?_ | refine k8 ?_ | refine And.intro ?_ ?_ | (intro h; first | exact Bool.noConfusion h | exact nz _ h | exact nl h | (simp at h; done) | (simp at h; first | (exfalso; omega) | skip) | skip) | fail)
                    exact ⟨(k, ⟨⟨1 + v1, v2, v3, 1⟩, v - 1⟩, []), ⟨u2, u3.at_, by simp⟩, Ghost.trans (Ghost.shut (i := 5) (c := 5) (x := .pv (.val (.slice none 0 0))) rfl rfl rfl (by repeat' (first | trivial)) (show ¬ (5 ∈ ([] : List Nat)) by decide) (ALe.pv PLe.nil)) (back [0, 1, 2, 3, 4, 5] rfl rfl (by repeat' (first | exact trivial | exact rfl | refine And.intro ?_ ?_)) (by repeat' (first | exact trivial | exact rfl | refine And.intro ?_ ?_)))⟩
                · simp only [List.length_cons, List.length_nil] at hu3
                  dsimp only [slP, obP, zeroM, mb, ob5, nilA, List.map, List.length_cons, List.length_nil, List.length_map]
                  rcases Nat.lt_or_ge u r.toNat with hu | hu
                  · repeat' (first | ((change vcFun _ _ _ _ _; refine call_cost 0 rfl (by assumption) (by assumption) ?_; intro cn kc hcn hkc)) | (refine app_consm (f := Charge.row) (Charge.mk (u : Int) cn) rfl ?_) | refine o1 ?_ | refine o2 ?_ | refine k1 ?_ | refine k2 ?_ | refine k3 ?_ | refine k4 ?_ | refine k6 ?_ | refine And.intro ?_ ?_ | (intro h; first | exact Bool.noConfusion h | exact nz _ h | exact nl h | (simp at h; done) | (simp at h; first | (exfalso; omega) | skip) | skip) | (refine (?_ : srcLen _ = rowsLen _); rfl) | refine eqv_wrap (by omega) (by omega) ?_ | (refine (?_ : _ ≤ 140737488355328); simp [rowsLen] <;> omega) | (refine (?_ : _ ≤ 9223372036854775807); simp [rowsLen] <;> omega) | (refine (?_ : _ = rowsLen _); simp [rowsLen] <;> omega) | (change vcFun _ _ _ _ _; refine call_one2 0 rfl (by assumption) (by assumption) (by omega) (by omega) ?_; intro bq kq hkq) | fail)
                    all_goals first
                      | (exfalso; omega)
                      | skip
                    · exact ⟨(u + 1, kq, h0 :: (chs ++ [Charge.mk (u : Int) cn])), ⟨by show u + 1 ≤ _; omega, hkq, u3.app (by omega) (hcn.elim (fun h => by omega) id)⟩, (by show _ - (u + 1) < _; omega), back [0, 1, 2, 3, 4, 5, 8] rfl rfl (by repeat' (first | exact trivial | exact rfl | refine And.intro ?_ ?_)) (by repeat' (first | exact trivial | exact rfl | refine And.intro ?_ ?_))⟩
                    · exact ⟨(u + 1, kq, h0 :: chs), ⟨by show u + 1 ≤ _; omega, hkq, u3.skip⟩, (by show _ - (u + 1) < _; omega), back [0, 1, 2, 3, 4, 5, 6] rfl rfl (by repeat' (first | exact trivial | exact rfl | refine And.intro ?_ ?_)) (by repeat' (first | exact trivial | exact rfl | refine And.intro ?_ ?_))⟩
                    · exact ⟨(u + 1, kc, h0 :: chs), ⟨by show u + 1 ≤ _; omega, hkc, u3.skip⟩, (by show _ - (u + 1) < _; omega), back [0, 1, 2, 3, 4, 5, 6] rfl rfl (by repeat' (first | exact trivial | exact rfl | refine And.intro ?_ ?_)) (by repeat' (first | exact trivial | exact rfl | refine And.intro ?_ ?_))⟩
                  · repeat' (first | refine o1 ?_ | refine o2 ?_ | refine k1 ?_ | refine k2 ?_ | refine k3 ?_ | refine k8 ?_ | refine And.intro ?_ ?_ | (intro h; first | exact Bool.noConfusion h | exact nz _ h | exact nl h | (simp at h; done) | (simp at h; first | (exfalso; omega) | skip) | skip) | fail)
                    exact ⟨(k, ⟨⟨1 + v1, v2, v3, 1⟩, v - 1⟩, h0 :: chs), ⟨u2, u3.at_, by simp only [List.length_cons]; omega⟩, Ghost.trans (Ghost.shut (i := 5) (c := 5) (x := .ms 6 2 0 ((List.map Charge.row chs).length + 1)) rfl rfl rfl (by repeat' (first | (show 0 + _ ≤ List.length _; simp))) (show ¬ (5 ∈ ([6] : List Nat)) by decide) (ALe.pv (whole_le (f := Charge.row) (l := h0 :: chs) (by simp)))) (back [0, 1, 2, 3, 4, 5] rfl rfl (by repeat' (first | exact trivial | exact rfl | refine And.intro ?_ ?_)) (by repeat' (first | exact trivial | exact rfl | refine And.intro ?_ ?_)))⟩
              refine ⟨?_⟩
              rintro ⟨k, pl, chs⟩ ⟨f1, f2, f3⟩
              dsimp only at f1 f2 f3
              dsimp only [slP, obP, zeroM, mb, ob5, nilA, List.map, List.length_cons, List.length_nil, List.length_map]
              repeat' (first | (refine app_consm (f := Opt.row) ⟨pl, chs⟩ rfl ?_) | refine o1 ?_ | refine o2 ?_ | refine k2 ?_ | refine And.intro ?_ ?_ | (refine (?_ : srcLen _ = rowsLen _); rfl) | refine eqv_wrap (by omega) (by omega) ?_ | (refine (?_ : _ ≤ 140737488355328); simp [rowsLen] <;> omega) | (refine (?_ : _ ≤ 9223372036854775807); simp [rowsLen] <;> omega) | (refine (?_ : _ = rowsLen _); simp [rowsLen] <;> omega) | fail)
              exact ⟨(n2 - 1, k, o0 :: (ops ++ [Opt.mk pl chs])), ⟨⟨by show n2 - 1 + List.length _ ≤ 4; simp; try omega, by show 1 ≤ n2 - 1 + List.length _; simp; try omega⟩, f1, all_app (l := o0 :: ops) g3 (show OptQ r ⟨pl, chs⟩ from ⟨f2, f3⟩)⟩, (by show n2 - 1 < n2; omega), back [0, 1, 2, 3, 7] rfl rfl (by repeat' (first | exact trivial | exact rfl | refine And.intro ?_ ?_)) ⟨rfl, slot_eq rfl (congrArg (vint .i64) (by show _ = ((n2 - 1 : Nat) : Int); omega)), (by repeat' (first | exact trivial | exact rfl | refine And.intro ?_ ?_))⟩⟩
        refine ⟨?_⟩
        rintro ⟨k, ops⟩ ⟨e1, e2, e3, e4⟩
        dsimp only at e1 e2 e3 e4
        dsimp only [slP, obP, zeroM, mb, ob5, nilA, List.map, List.length_cons, List.length_nil, List.length_map]
        repeat' (first | (refine app_consm (f := optsRow) ops rfl ?_) | refine o1 ?_ | refine o2 ?_ | refine k2 ?_ | refine And.intro ?_ ?_ | (refine (?_ : srcLen _ = rowsLen _); rfl) | refine eqv_wrap (by omega) (by omega) ?_ | (refine (?_ : _ ≤ 140737488355328); simp [rowsLen] <;> omega) | (refine (?_ : _ ≤ 9223372036854775807); simp [rowsLen] <;> omega) | (refine (?_ : _ = rowsLen _); simp [rowsLen] <;> omega) | fail)
        exact ⟨(n - 1, k, c0 :: (cls ++ [ops])), ⟨by show n - 1 + List.length _ ≤ 5; simp; try omega, e1, all_app (l := c0 :: cls) c3 (show ClsQ r ops from ⟨e2, e3, e4⟩)⟩, (by show n - 1 < n; omega), back [0, 1, 2, 5] rfl rfl (by repeat' (first | exact trivial | exact rfl | refine And.intro ?_ ?_)) ⟨slot_eq rfl (congrArg (vint .i64) (by show _ = ((n - 1 : Nat) : Int); omega)), (by repeat' (first | exact trivial | exact rfl | refine And.intro ?_ ?_))⟩⟩
  · exact later
end Go.Proofs.YtihpjcmloecaaaaGreat.Cw
/-
  Made models: the walk, pairs.
-/
namespace Go.Proofs.YtihpjcmloecaaaaGreat.Cw
open Go.Cw Go.Proofs
set_option linter.unusedVariables false
set_option maxRecDepth 100000
set_option maxHeartbeats 30000000
theorem stageC {Q : Exit → Slots → Heap → Prop} {rest : Code} (t : List Int) (ht : t.length ≤ 400) (a b : Int) (r : Int) (r1 : 1 ≤ r) (r2 : r ≤ 4) (k : Nat) (cls : List (List Opt)) (s1 : k ≤ t.length) (s2 : cls.length ≤ 5) (hcls : ∀ l ∈ cls, ClsQ r l)
    (later : Later (∀ x : Nat × List Pair, (x.1 ≤ t.length ∧ (∀ j, j < x.2.length → pairAt ⟨cls, x.2, [], r⟩ j) ∧ x.2.length ≤ 200) → forceH [dice t x.1, zeroM, mb (.pv (.sl 1 (cls.map optsRow))) (.pv (.sl 4 (x.2.map Pair.row))) nilA r] fun H1 => xCode Tryz.prog T 199 1 rest Q ([] ++ [(7, .ptr 2 4 0 0), (6, .ptr (0 + 1) 4 0 0), (0, .ptr 0 2 0 0), (0 + 1, vint .i64 a), (0 + 1 + 1, vint .i64 b)]) H1)) :
    xCode Tryz.prog T 199 1 (.seq codeC rest) Q ([] ++ [(7, .ptr 2 4 0 0), (6, .ptr (0 + 1) 4 0 0), (0, .ptr 0 2 0 0), (0 + 1, vint .i64 a), (0 + 1 + 1, vint .i64 b)]) [dice t k, zeroM, mb (.pv (.sl 1 (cls.map optsRow))) nilA nilA r] := by
  show xCode _ _ _ _ (.seq (.seq (.region 18 _ _) _) rest) _ _ _
  dsimp only [zeroM, mb, nilA]
  repeat' (first | (refine join_in (a := .seq (.region 18 _ _) _) (fun _ => []) (fun x : Nat × List Pair => [dice t x.1, zeroM, mb (.pv (.sl 1 (cls.map optsRow))) (.pv (.sl 4 (x.2.map Pair.row))) nilA r]) (fun x => x.1 ≤ t.length ∧ (∀ j, j < x.2.length → pairAt ⟨cls, x.2, [], r⟩ j) ∧ x.2.length ≤ 200) ?_) | refine o1 ?_ | refine o2 ?_ | refine k1 ?_ | refine k2 ?_ | refine k4 ?_ | refine And.intro ?_ ?_ | fail)
  · refine loop_for (fun x : Nat × Nat × List Pair => [(7, .ptr 2 4 0 0), (6, .ptr (0 + 1) 4 0 0), (0, .ptr 0 2 0 0), (0 + 1, vint .i64 a), (0 + 1 + 1, vint .i64 b), (14, vint .i64 x.1)]) (fun x => [dice t x.2.1, zeroM, mb (.pv (.sl 1 (cls.map optsRow))) (slP 3 4 (x.2.2.map Pair.row)) nilA r, obP 72 4 (x.2.2.map Pair.row)]) (fun x => x.1 ≤ r.toNat ∧ x.2.1 ≤ t.length ∧ PrQ cls r x.2.2 x.1 0 0) (fun x => r.toNat - x.1) (0, k, []) ⟨Nat.zero_le _, s1, PrQ.nil⟩ ?_ ?_
    · refine back [0, 1, 2, 3] rfl rfl ?_ ?_
      · repeat' (first | exact trivial | exact rfl | refine kept_bx ren_bx1 rfl ?_ | refine And.intro ?_ ?_)
      · repeat' (first | exact trivial | exact rfl | refine And.intro ?_ ?_)
    rintro ⟨u, k, prs⟩ ⟨u1, u2, u3⟩
    dsimp only at u1 u2 u3 ⊢
    have ul := u3.len
    dsimp only [zeroM, mb]
    rcases Nat.lt_or_ge u r.toNat with hu | hu
    · have hu1 : (u : Int) < r := by omega
      repeat' (first | (refine fh_ob ?_) | refine o1 ?_ | refine o2 ?_ | refine k1 ?_ | refine k2 ?_ | refine k3 ?_ | refine k4 ?_ | refine k6 ?_ | refine And.intro ?_ ?_ | (intro h; first | exact Bool.noConfusion h | exact nz _ h | exact nl h | (simp at h; done) | (simp at h; first | (exfalso; omega) | skip) | skip) | fail)
      refine loop_for (fun x : Nat × Nat × List Pair => [(7, .ptr 2 4 0 0), (6, .ptr (0 + 1) 4 0 0), (0, .ptr 0 2 0 0), (0 + 1, vint .i64 a), (0 + 1 + 1, vint .i64 b), (14, vint .i64 u), (15, vint .i64 x.1)]) (fun x => [dice t x.2.1, zeroM, mb (.pv (.sl 1 (cls.map optsRow))) (slP 3 4 (x.2.2.map Pair.row)) nilA r, obP 72 4 (x.2.2.map Pair.row)]) (fun x => x.1 ≤ cls.length ∧ x.2.1 ≤ t.length ∧ PrQ cls r x.2.2 u x.1 0) (fun x => cls.length - x.1) (0, k, prs) ⟨Nat.zero_le _, u2, u3⟩ ?_ ?_
      · refine back [0, 1, 2, 3] rfl rfl ?_ ?_
        · repeat' (first | exact trivial | exact rfl | refine kept_ob rfl ?_ | refine kept_bx ren_bx1 rfl ?_ | refine And.intro ?_ ?_)
        · repeat' (first | exact trivial | exact rfl | refine And.intro ?_ ?_)
      rintro ⟨i, k, prs⟩ ⟨i1, i2, i3⟩
      dsimp only at i1 i2 i3 ⊢
      have il := i3.len
      dsimp only [zeroM, mb]
      rcases Nat.lt_or_ge i cls.length with hi1 | hi1
      · repeat' (first | (refine fh_ob ?_) | refine o1 ?_ | refine o2 ?_ | refine k1 ?_ | refine k2 ?_ | refine k3 ?_ | refine k4 ?_ | refine k6 ?_ | refine And.intro ?_ ?_ | (intro h; first | exact Bool.noConfusion h | exact nz _ h | exact nl h | (simp at h; done) | (simp at h; first | (exfalso; omega) | skip) | skip) | refine eqv_len_map ?_ | refine eqv_wrap (by omega) (by omega) ?_ | fail)
        refine loop_for (fun x : Nat × Nat × List Pair => [(7, .ptr 2 4 0 0), (6, .ptr (0 + 1) 4 0 0), (0, .ptr 0 2 0 0), (0 + 1, vint .i64 a), (0 + 1 + 1, vint .i64 b), (14, vint .i64 u), (15, vint .i64 i), (16, vint .i64 x.1)]) (fun x => [dice t x.2.1, zeroM, mb (.pv (.sl 1 (cls.map optsRow))) (slP 3 4 (x.2.2.map Pair.row)) nilA r, obP 72 4 (x.2.2.map Pair.row)]) (fun x => (i < x.1 ∧ x.1 ≤ cls.length) ∧ x.2.1 ≤ t.length ∧ PrQ cls r x.2.2 u i x.1) (fun x => cls.length - x.1) (i + 1, k, prs) ⟨⟨by dsimp only; omega, by dsimp only; omega⟩, i2, i3.toK⟩ ?_ ?_
        · refine back [0, 1, 2, 3] rfl rfl ?_ ?_
          · repeat' (first | exact trivial | exact rfl | refine kept_ob rfl ?_ | refine kept_bx ren_bx1 rfl ?_ | refine And.intro ?_ ?_)
          · repeat' (first | exact trivial | exact rfl | refine And.intro ?_ ?_)
        rintro ⟨kk, k, prs⟩ ⟨⟨j0, j1⟩, j2, j3⟩
        dsimp only at j0 j1 j2 j3 ⊢
        have jl := j3.len
        dsimp only [zeroM, mb]
        rcases Nat.lt_or_ge kk cls.length with hkk | hkk
        · obtain ⟨la, hla⟩ := getE hi1
          obtain ⟨lb, hlb⟩ := getE hkk
          have hq1 := hcls la (List.mem_of_getElem? hla)
          have hq2 := hcls lb (List.mem_of_getElem? hlb)
          have hab : la.length * lb.length ≤ 16 := Nat.mul_le_mul hq1.2.1 hq2.2.1
          have hcast : ((la.length * lb.length : Nat) : Int) = (la.length : Int) * lb.length := by simp
          have hb1 : ((prs.map Pair.row).length + 1) * 48 ≤ 140737488355328 := by rw [List.length_map]; omega
          have hb2 : (prs.map Pair.row).length + 1 ≤ 9223372036854775807 := by rw [List.length_map]; omega
          repeat' (first | (refine fh_ob ?_) | (refine idx_sl (k := i) (at_map hla) (by omega) ?_) | (refine idx_sl (k := kk) (at_map hlb) (by omega) ?_) | (refine eqv_to ((la.length * lb.length : Nat) : Int) (by rw [hcast]; exact wrap64 (by omega) (by omega)) ?_) | refine o1 ?_ | refine o2 ?_ | refine k1 ?_ | refine k2 ?_ | refine k3 ?_ | refine k4 ?_ | refine k6 ?_ | refine And.intro ?_ ?_ | refine o3 ?_ | refine o4 ?_ | (intro h; first | exact Bool.noConfusion h | exact nz _ h | exact nl h | (simp at h; done) | (simp at h; first | (exfalso; omega) | skip) | skip) | exact (by kernel_rfl : drawOk _ _ = true) | refine eqv_len_map ?_ | refine eqv_wrap (by omega) (by omega) ?_ | (change vcFun _ _ _ _ _; refine call_one2 0 rfl (by assumption) (by assumption) (by omega) (by omega) ?_; intro bq kq hkq) | fail)
          · refine loop_for (fun x : Nat × Nat × List Int => [(7, .ptr 2 4 0 0), (6, .ptr (0 + 1) 4 0 0), (0, .ptr 0 2 0 0), (0 + 1, vint .i64 a), (0 + 1 + 1, vint .i64 b), (14, vint .i64 u), (15, vint .i64 i), (16, vint .i64 kk), (17, .ptr 4 4 0 0), (18, vint .i64 x.1)]) (fun x => [dice t x.2.1, zeroM, mb (.pv (.sl 1 (cls.map optsRow))) (slP 3 4 (prs.map Pair.row)) nilA r, obP 72 4 (prs.map Pair.row), pb4 i kk u (slP 5 1 (x.2.2.map fun n => [ei n])), obP 3 1 (x.2.2.map fun n => [ei n])]) (fun x => x.1 + x.2.2.length = la.length * lb.length ∧ x.2.1 ≤ t.length ∧ ∀ y ∈ x.2.2, y = 0 ∨ priceP y) (fun x => x.1) (la.length * lb.length, kq, []) ⟨by simp, hkq, fun y hy => absurd hy List.not_mem_nil⟩ ?_ ?_
            · refine back [0, 1, 2, 3, 4, 5] rfl rfl ?_ ?_
              · repeat' (first | exact trivial | exact rfl | refine kept_ob rfl ?_ | refine kept_bx ren_bx3 rfl ?_ | refine kept_bx ren_bx1 rfl ?_ | refine And.intro ?_ ?_)
              · repeat' (first | exact trivial | exact rfl | refine And.intro ?_ ?_)
            rintro ⟨j, k, tb⟩ ⟨t1, t2, t3⟩
            dsimp only at t1 t2 t3 ⊢
            dsimp only [zeroM, mb, pb4]
            rcases Nat.eq_zero_or_pos j with rfl | hj
            · refine forceH_in ?_
              refine ghost_seq (Γ' := [(7, .ptr 2 4 0 0), (6, .ptr (0 + 1) 4 0 0), (0, .ptr 0 2 0 0), (0 + 1, vint .i64 a), (0 + 1 + 1, vint .i64 b), (14, vint .i64 u), (15, vint .i64 i), (16, vint .i64 kk), (17, .ptr 4 4 0 0), (18, vint .i64 (0 : Nat))]) (H' := [dice t k, zeroM, mb (.pv (.sl 1 (cls.map optsRow))) (slP 3 4 (prs.map Pair.row)) nilA r, obP 72 4 (prs.map Pair.row), pb4 i kk u (.pv (.sl 1 (tb.map fun n => [ei n])))]) (Ghost.shut_sl (i := 4) (c := 3) (id := 5) rfl rfl rfl (by decide) fun H' hl h2 hH => ?_) ?_
              · refine back [0, 1, 2, 3, 4] rfl rfl ⟨hH 0 (by decide) (by decide), hH 1 (by decide) (by decide), kept_bx ren_bx1 (hH 2 (by decide) (by decide)) (kept_ob (hH 3 (by decide) (by decide)) ⟨h2, trivial⟩)⟩ ?_
                repeat' (first | exact trivial | exact rfl | refine And.intro ?_ ?_)
              dsimp only [zeroM, mb, pb4]
              repeat' (first | (refine fv_sl ?_) | (refine fh_ob ?_) | ((refine o_app rfl rfl rfl rfl rfl rfl rfl rfl rfl rfl rfl hb1 hb2 ?_)) | refine o1 ?_ | refine o2 ?_ | refine k1 ?_ | refine k2 ?_ | refine k3 ?_ | refine k8 ?_ | refine And.intro ?_ ?_ | (intro h; first | exact Bool.noConfusion h | exact nz _ h | exact nl h | (simp at h; done) | (simp at h; first | (exfalso; omega) | skip) | skip) | refine eqv_wrap (by omega) (by omega) ?_ | fail)
              refine ⟨(kk + 1, k, prs ++ [⟨i, kk, u, tb⟩]), ⟨⟨by dsimp only; omega, by dsimp only; omega⟩, t2, j3.app (pair_made hla hlb j0 hu1 (by omega) t3)⟩, by dsimp only; omega, ?_⟩
              dsimp only
              rw [map_snoc, sl_app, ob_app]
              refine back [0, 1, 2, 6] rfl rfl ?_ ?_
              · repeat' (first | exact trivial | exact rfl | refine And.intro ?_ ?_)
              · repeat' (first | exact trivial | exact rfl | refine And.intro ?_ ?_)
            have hb3 : ((tb.map fun n => [ei n]).length + 1) * 8 ≤ 140737488355328 := by rw [List.length_map]; omega
            have hb4 : (tb.map fun n => [ei n]).length + 1 ≤ 9223372036854775807 := by rw [List.length_map]; omega
            repeat' (first | (refine fv_sl ?_) | (refine fh_ob ?_) | ((change vcFunD _ _ _ _ _; refine callD_cost 0 rfl (by assumption) (by assumption) ?_; intro cn kc hcn hkc)) | ((refine o_appD rfl rfl rfl rfl rfl rfl rfl rfl rfl rfl rfl hb3 hb4 ?_)) | refine o1 ?_ | refine o2 ?_ | refine k1 ?_ | refine k2 ?_ | refine k3 ?_ | refine k4 ?_ | refine k6 ?_ | refine And.intro ?_ ?_ | refine o3 ?_ | refine o4 ?_ | (intro h; first | exact Bool.noConfusion h | exact nz _ h | exact nl h | (simp at h; done) | (simp at h; first | (exfalso; omega) | skip) | skip) | exact (by kernel_rfl : drawOk _ _ = true) | refine eqv_wrap (by omega) (by omega) ?_ | fail)
            all_goals
              refine ⟨(j - 1, kc, tb ++ [cn]), ⟨by dsimp only; rw [List.length_append]; simp only [List.length_cons, List.length_nil]; omega, hkc, all_app t3 hcn⟩, by dsimp only; omega, ?_⟩
              dsimp only
              rw [map_snoc, sl_app, ob_app]
              refine back [0, 1, 2, 3, 4, 7] rfl rfl ?_ ⟨rfl, rfl, rfl, rfl, rfl, rfl, rfl, rfl, rfl, slot_eq rfl (congrArg (vint .i64) (by show _ = ((j - 1 : Nat) : Int); omega)), trivial⟩
              repeat' (first | exact trivial | exact rfl | refine kept_ob rfl ?_ | refine kept_bx ren_bx1 rfl ?_ | refine And.intro ?_ ?_)
          · refine ⟨(kk + 1, kq, prs), ⟨⟨by dsimp only; omega, by dsimp only; omega⟩, hkq, j3.skip⟩, by dsimp only; omega, ?_⟩
            dsimp only
            refine back [0, 1, 2, 3] rfl rfl ?_ ?_
            · repeat' (first | exact trivial | exact rfl | refine kept_ob rfl ?_ | refine kept_bx ren_bx1 rfl ?_ | refine And.intro ?_ ?_)
            · repeat' (first | exact trivial | exact rfl | refine And.intro ?_ ?_)
        · obtain rfl : kk = cls.length := by omega
          repeat' (first | (refine fh_ob ?_) | refine o1 ?_ | refine o2 ?_ | refine k1 ?_ | refine k2 ?_ | refine k3 ?_ | refine k8 ?_ | refine And.intro ?_ ?_ | (intro h; first | exact Bool.noConfusion h | exact nz _ h | exact nl h | (simp at h; done) | (simp at h; first | (exfalso; omega) | skip) | skip) | refine eqv_len_map ?_ | refine eqv_wrap (by omega) (by omega) ?_ | fail)
          refine ⟨(i + 1, k, prs), ⟨by dsimp only; omega, j2, j3.toI (by omega)⟩, by dsimp only; omega, ?_⟩
          dsimp only
          refine back [0, 1, 2, 3] rfl rfl ?_ ?_
          · repeat' (first | exact trivial | exact rfl | refine kept_ob rfl ?_ | refine kept_bx ren_bx1 rfl ?_ | refine And.intro ?_ ?_)
          · repeat' (first | exact trivial | exact rfl | refine And.intro ?_ ?_)
      · obtain rfl : i = cls.length := by omega
        repeat' (first | (refine fh_ob ?_) | refine o1 ?_ | refine o2 ?_ | refine k1 ?_ | refine k2 ?_ | refine k3 ?_ | refine k8 ?_ | refine And.intro ?_ ?_ | (intro h; first | exact Bool.noConfusion h | exact nz _ h | exact nl h | (simp at h; done) | (simp at h; first | (exfalso; omega) | skip) | skip) | refine eqv_len_map ?_ | refine eqv_wrap (by omega) (by omega) ?_ | fail)
        refine ⟨(u + 1, k, prs), ⟨by dsimp only; omega, i2, i3.toU (by omega)⟩, by dsimp only; omega, ?_⟩
        dsimp only
        refine back [0, 1, 2, 3] rfl rfl ?_ ?_
        · repeat' (first | exact trivial | exact rfl | refine kept_ob rfl ?_ | refine kept_bx ren_bx1 rfl ?_ | refine And.intro ?_ ?_)
        · repeat' (first | exact trivial | exact rfl | refine And.intro ?_ ?_)
    · obtain rfl : u = r.toNat := by omega
      refine forceH_in ?_
      refine ghost_seq (Γ' := [(7, .ptr 2 4 0 0), (6, .ptr (0 + 1) 4 0 0), (0, .ptr 0 2 0 0), (0 + 1, vint .i64 a), (0 + 1 + 1, vint .i64 b), (14, vint .i64 r.toNat)]) (H' := [dice t k, zeroM, mb (.pv (.sl 1 (cls.map optsRow))) (.pv (.sl 4 (prs.map Pair.row))) nilA r]) (Ghost.shut_sl (i := 2) (c := 1) (id := 3) rfl rfl rfl (by decide) fun H' hl h2 hH => ?_) ?_
      · refine back [0, 1, 2] rfl rfl ⟨hH 0 (by decide) (by decide), hH 1 (by decide) (by decide), h2, trivial⟩ ?_
        repeat' (first | exact trivial | exact rfl | refine And.intro ?_ ?_)
      dsimp only [zeroM, mb]
      repeat' (first | refine o1 ?_ | refine o2 ?_ | refine k1 ?_ | refine k2 ?_ | refine k3 ?_ | refine k8 ?_ | refine And.intro ?_ ?_ | (intro h; first | exact Bool.noConfusion h | exact nz _ h | exact nl h | (simp at h; done) | (simp at h; first | (exfalso; omega) | skip) | skip) | fail)
      exact ⟨(k, prs), ⟨u2, u3.at_, by dsimp only; omega⟩, back [0, 1, 2] rfl rfl (by repeat' (first | exact trivial | exact rfl | refine And.intro ?_ ?_)) (by repeat' (first | exact trivial | exact rfl | refine And.intro ?_ ?_))⟩
  · exact later
end Go.Proofs.YtihpjcmloecaaaaGreat.Cw
/-
  Made models: the walk, counts.
-/
namespace Go.Proofs.YtihpjcmloecaaaaGreat.Cw
open Go.Cw Go.Proofs
set_option linter.unusedVariables false
set_option maxRecDepth 100000
set_option maxHeartbeats 30000000
theorem stageD {Q : Exit → Slots → Heap → Prop} {rest : Code} (t : List Int) (ht : t.length ≤ 400) (a b : Int) (r : Int) (r1 : 1 ≤ r) (r2 : r ≤ 4) (k : Nat) (cls : List (List Opt)) (prs : List Pair) (s2 : cls.length ≤ 5) (hcls : ∀ l ∈ cls, ClsQ r l) (p1 : k ≤ t.length)
    (later : Later (∀ x : Nat × List Count, (x.1 ≤ t.length ∧ x.2.length ≤ 2 ∧ ∀ c ∈ x.2, CtQ cls r c) → forceH [dice t x.1, zeroM, mb (.pv (.sl 1 (cls.map optsRow))) (.pv (.sl 4 (prs.map Pair.row))) (.pv (.sl 4 (x.2.map Count.row))) r] fun H1 => xCode Tryz.prog T 199 1 rest Q ([] ++ [(7, .ptr 2 4 0 0), (6, .ptr (0 + 1) 4 0 0), (0, .ptr 0 2 0 0), (0 + 1, vint .i64 a), (0 + 1 + 1, vint .i64 b)]) H1)) :
    xCode Tryz.prog T 199 1 (.seq codeD rest) Q ([] ++ [(7, .ptr 2 4 0 0), (6, .ptr (0 + 1) 4 0 0), (0, .ptr 0 2 0 0), (0 + 1, vint .i64 a), (0 + 1 + 1, vint .i64 b)]) [dice t k, zeroM, mb (.pv (.sl 1 (cls.map optsRow))) (.pv (.sl 4 (prs.map Pair.row))) nilA r] := by
  show xCode _ _ _ _ (.seq (.seq (.region 34 _ _) _) rest) _ _ _
  dsimp only [zeroM, mb, nilA]
  repeat' (first | (refine join_in (a := .seq (.region 34 _ _) _) (fun _ => []) (fun x : Nat × List Count => [dice t x.1, zeroM, mb (.pv (.sl 1 (cls.map optsRow))) (.pv (.sl 4 (prs.map Pair.row))) (.pv (.sl 4 (x.2.map Count.row))) r]) (fun x => x.1 ≤ t.length ∧ x.2.length ≤ 2 ∧ ∀ c ∈ x.2, CtQ cls r c) ?_) | refine o1 ?_ | refine o2 ?_ | refine k1 ?_ | refine k2 ?_ | refine k4 ?_ | refine And.intro ?_ ?_ | (change vcFun _ _ _ _ _; refine call_next 0 rfl (by assumption) (by assumption) (by omega) (by omega) ?_; intro v kq hv1 hv2 hkq) | fail)
  · refine loop_in (fun x : Nat × Nat × List Count => [(19, vint .i64 x.1)]) (fun x => [dice t x.2.1, zeroM, mb (.pv (.sl 1 (cls.map optsRow))) (.pv (.sl 4 (prs.map Pair.row))) (slP 3 4 (List.map Count.row (x.2.2))) r, obP 78 4 (List.map Count.row (x.2.2))]) (fun x => x.1 + x.2.2.length ≤ 2 ∧ x.2.1 ≤ t.length ∧ ∀ c ∈ x.2.2, CtQ cls r c) (fun x => x.1) (v.toNat, kq, []) ⟨by simp; omega, hkq, fun l hl => absurd hl List.not_mem_nil⟩ ⟨?_, ?_⟩
    · exact back [0, 1, 2, 3] rfl rfl (by repeat' (first | exact trivial | exact rfl | refine And.intro ?_ ?_)) ⟨slot_eq rfl (congrArg (vint .i64) (by show _ = ((v.toNat : Nat) : Int); omega)), (by repeat' (first | exact trivial | exact rfl | refine And.intro ?_ ?_))⟩
    rintro ⟨n, k, cts⟩ ⟨d1, d2, d3⟩
    dsimp only at d1 d2 d3
    rcases cts with _ | ⟨c0, cts⟩
    · simp only [List.length_cons, List.length_nil] at d1
      dsimp only [slP, obP, zeroM, mb, cb4, nilA, List.map, List.length_cons, List.length_nil, List.length_map]
      rcases Nat.eq_zero_or_pos n with rfl | hn
      · repeat' (first | refine o1 ?_ | refine o2 ?_ | refine k1 ?_ | refine k2 ?_ | refine k3 ?_ | refine k8 ?_ | refine And.intro ?_ ?_ | (intro h; first | exact Bool.noConfusion h | exact nz _ h | exact nl h | (simp at h; done) | (simp at h; first | (exfalso; omega) | skip) | skip) | fail)
        exact ⟨(k, []), ⟨d2, by simp, d3⟩, Ghost.trans (Ghost.shut (i := 2) (c := 2) (x := .pv (.val (.slice none 0 0))) rfl rfl rfl (by repeat' (first | trivial)) (show ¬ (2 ∈ ([] : List Nat)) by decide) (ALe.pv PLe.nil)) (back [0, 1, 2] rfl rfl (by repeat' (first | exact trivial | exact rfl | refine And.intro ?_ ?_)) (by repeat' (first | exact trivial | exact rfl | refine And.intro ?_ ?_)))⟩
      · repeat' (first | ((change vcFun _ _ _ _ _; refine call_cost 0 rfl (by assumption) (by assumption) ?_; intro cn kc hcn hkc)) | (refine join_in (a := .region 37 _ _) (fun _ => [(20, .ptr 4 4 0 0)]) (fun x : Nat × Int × Int × Int => [dice t x.1, zeroM, mb (.pv (.sl 1 (cls.map optsRow))) (.pv (.sl 4 (prs.map Pair.row))) (slP 3 4 (List.map Count.row ([]))) r, obP 78 4 (List.map Count.row ([])), cb4 x.2.1 nilA x.2.2.1 x.2.2.2]) (fun x => x.1 ≤ t.length ∧ (0 ≤ x.2.1 ∧ x.2.1 < r) ∧ (0 ≤ x.2.2.1 ∧ x.2.2.1 < 4) ∧ priceP x.2.2.2) ?_) | refine o1 ?_ | refine o2 ?_ | refine k1 ?_ | refine k2 ?_ | refine k3 ?_ | refine k4 ?_ | refine k6 ?_ | refine And.intro ?_ ?_ | (intro h; first | exact Bool.noConfusion h | exact nz _ h | exact nl h | (simp at h; done) | (simp at h; first | (exfalso; omega) | skip) | skip) | exact (by kernel_rfl : drawOk _ _ = true) | (change vcFun _ _ _ _ _; refine call_next 0 rfl (by assumption) (by assumption) (by omega) (by omega) ?_; intro v kq hv1 hv2 hkq) | fail)
        · rename_i v1 q1 a1 a2 a3
          refine ⟨(kc, v1, v, _), ⟨hkc, ⟨a1, a2⟩, ⟨hv1, hv2⟩, ?_⟩, back [0, 1, 2, 3, 4] rfl rfl ⟨rfl, rfl, rfl, rfl, trivial⟩ (by repeat' (first | exact trivial | exact rfl | refine And.intro ?_ ?_))⟩
          dsimp only
          exact pen_ok hcn
        refine ⟨?_⟩
        rintro ⟨k, ru, mo, pe⟩ ⟨m1, m2, m3, m4⟩
        dsimp only at m1 m2 m3 m4
        dsimp only [slP, obP, zeroM, mb, cb4, nilA, List.map, List.length_cons, List.length_nil, List.length_map]
        repeat' (first | (refine join_in (a := .seq (.region 38 _ _) _) (fun _ => []) (fun x : Nat × List Load => [dice t x.1, zeroM, mb (.pv (.sl 1 (cls.map optsRow))) (.pv (.sl 4 (prs.map Pair.row))) (slP 3 4 (List.map Count.row ([]))) r, obP 78 4 (List.map Count.row ([])), cb4 ru (.pv (.sl 3 (x.2.map Load.row))) mo pe]) (fun x => x.1 ≤ t.length ∧ (∀ n, n < x.2.length → loadAt ⟨cls, [], [], 0⟩ x.2 n) ∧ x.2.length ≤ 1000) ?_) | refine o1 ?_ | refine o2 ?_ | refine k1 ?_ | refine k2 ?_ | refine k4 ?_ | refine And.intro ?_ ?_ | fail)
        · refine loop_in (fun x : Nat × Nat × List Load => [(21, vint .i64 x.1)]) (fun x => [dice t x.2.1, zeroM, mb (.pv (.sl 1 (cls.map optsRow))) (.pv (.sl 4 (prs.map Pair.row))) (slP 3 4 (List.map Count.row ([]))) r, obP 78 4 (List.map Count.row ([])), cb4 ru (slP 5 3 (List.map Load.row (x.2.2))) mo pe, obP 102 3 (List.map Load.row (x.2.2))]) (fun x => x.1 ≤ cls.length ∧ x.2.1 ≤ t.length ∧ LoQ cls x.2.2 x.1 0) (fun x => cls.length - x.1) (0, k, []) ⟨Nat.zero_le _, m1, LoQ.nil⟩ ⟨?_, ?_⟩
          · exact back [0, 1, 2, 3, 4, 5] rfl rfl (by repeat' (first | exact trivial | exact rfl | refine And.intro ?_ ?_)) (by repeat' (first | exact trivial | exact rfl | refine And.intro ?_ ?_))
          rintro ⟨i, k, lds⟩ ⟨i1, i2, i3⟩
          dsimp only at i1 i2 i3
          have il := i3.len
          rcases lds with _ | ⟨l0, lds⟩
          · simp only [List.length_cons, List.length_nil] at il
            dsimp only [slP, obP, zeroM, mb, cb4, nilA, List.map, List.length_cons, List.length_nil, List.length_map]
            rcases Nat.lt_or_ge i cls.length with hi1 | hi1
            · obtain ⟨la, hla⟩ := getE hi1
              have hq1 := hcls la (List.mem_of_getElem? hla)
              have hq2 := hq1.2.1
              repeat' (first | refine o1 ?_ | refine o2 ?_ | refine k1 ?_ | refine k2 ?_ | refine k3 ?_ | refine k4 ?_ | refine k6 ?_ | refine And.intro ?_ ?_ | (intro h; first | exact Bool.noConfusion h | exact nz _ h | exact nl h | (simp at h; done) | (simp at h; first | (exfalso; omega) | skip) | skip) | refine eqv_len_map ?_ | fail)
              refine loop_in (fun x : Nat × Nat × List Load => [(22, vint .i64 x.1)]) (fun x => [dice t x.2.1, zeroM, mb (.pv (.sl 1 (cls.map optsRow))) (.pv (.sl 4 (prs.map Pair.row))) (slP 3 4 (List.map Count.row ([]))) r, obP 78 4 (List.map Count.row ([])), cb4 ru (slP 5 3 (List.map Load.row (x.2.2))) mo pe, obP 102 3 (List.map Load.row (x.2.2))]) (fun x => x.1 ≤ la.length ∧ x.2.1 ≤ t.length ∧ LoQ cls x.2.2 i x.1) (fun x => la.length - x.1) (0, k, []) ⟨Nat.zero_le _, i2, i3⟩ ⟨?_, ?_⟩
              · exact back [0, 1, 2, 3, 4, 5] rfl rfl (by repeat' (first | exact trivial | exact rfl | refine And.intro ?_ ?_)) (by repeat' (first | exact trivial | exact rfl | refine And.intro ?_ ?_))
              rintro ⟨j, k, lds⟩ ⟨j1, j2, j3⟩
              dsimp only at j1 j2 j3
              have jl := j3.len
              rcases lds with _ | ⟨l0, lds⟩
              · simp only [List.length_cons, List.length_nil] at jl
                dsimp only [slP, obP, zeroM, mb, cb4, nilA, List.map, List.length_cons, List.length_nil, List.length_map]
                rcases Nat.lt_or_ge j la.length with hj1 | hj1
                · repeat' (first | (refine idx_sl (k := i) (at_map hla) (by omega) ?_) | refine o1 ?_ | refine o2 ?_ | refine k1 ?_ | refine k2 ?_ | refine k3 ?_ | refine k4 ?_ | refine k6 ?_ | refine And.intro ?_ ?_ | refine o3 ?_ | refine o4 ?_ | (intro h; first | exact Bool.noConfusion h | exact nz _ h | exact nl h | (simp at h; done) | (simp at h; first | (exfalso; omega) | skip) | skip) | (refine (?_ : srcLen _ = rowsLen _); rfl) | exact Nat.le_of_ble_eq_true rfl | exact (by kernel_rfl : drawOk _ _ = true) | refine eqv_len_map ?_ | refine eqv_wrap (by omega) (by omega) ?_ | refine eqv_to _ (app_first rfl) (eqv_to 1 rfl ?_) | (change vcFun _ _ _ _ _; refine call_one2 0 rfl (by assumption) (by assumption) (by omega) (by omega) ?_; intro bq kq hkq) | (change vcFunD _ _ _ _ _; refine callD_next 0 rfl (by assumption) (by assumption) (by omega) (by omega) ?_; intro v kq hv1 hv2 hkq) | fail)
                  all_goals first
                    | (exfalso; omega)
                    | skip
                  · exact ⟨(j + 1, kq, [Load.mk i j (1 + v)]), ⟨by show j + 1 ≤ _; omega, hkq, j3.app hla hj1 (by omega) (by omega)⟩, (by show _ - (j + 1) < _; omega), back [0, 1, 2, 3, 4, 7] rfl rfl (by repeat' (first | exact trivial | exact rfl | refine And.intro ?_ ?_)) (by repeat' (first | exact trivial | exact rfl | refine And.intro ?_ ?_))⟩
                  · exact ⟨(j + 1, kq, []), ⟨by show j + 1 ≤ _; omega, hkq, j3.skip⟩, (by show _ - (j + 1) < _; omega), back [0, 1, 2, 3, 4, 5] rfl rfl (by repeat' (first | exact trivial | exact rfl | refine And.intro ?_ ?_)) (by repeat' (first | exact trivial | exact rfl | refine And.intro ?_ ?_))⟩
                · repeat' (first | (refine idx_sl (k := i) (at_map hla) (by omega) ?_) | refine o1 ?_ | refine o2 ?_ | refine k1 ?_ | refine k2 ?_ | refine k3 ?_ | refine k8 ?_ | refine And.intro ?_ ?_ | (intro h; first | exact Bool.noConfusion h | exact nz _ h | exact nl h | (simp at h; done) | (simp at h; first | (exfalso; omega) | skip) | skip) | refine eqv_len_map ?_ | refine eqv_wrap (by omega) (by omega) ?_ | fail)
                  exact ⟨(i + 1, k, []), ⟨by show i + 1 ≤ _; omega, j2, j3.toI (by omega)⟩, (by show _ - (i + 1) < _; omega), back [0, 1, 2, 3, 4, 5] rfl rfl (by repeat' (first | exact trivial | exact rfl | refine And.intro ?_ ?_)) (by repeat' (first | exact trivial | exact rfl | refine And.intro ?_ ?_))⟩
              · simp only [List.length_cons, List.length_nil] at jl
                dsimp only [slP, obP, zeroM, mb, cb4, nilA, List.map, List.length_cons, List.length_nil, List.length_map]
                rcases Nat.lt_or_ge j la.length with hj1 | hj1
                · repeat' (first | (refine idx_sl (k := i) (at_map hla) (by omega) ?_) | (refine app_consm (f := Load.row) (Load.mk i j (1 + v)) rfl ?_) | refine o1 ?_ | refine o2 ?_ | refine k1 ?_ | refine k2 ?_ | refine k3 ?_ | refine k4 ?_ | refine k6 ?_ | refine And.intro ?_ ?_ | refine o3 ?_ | refine o4 ?_ | (intro h; first | exact Bool.noConfusion h | exact nz _ h | exact nl h | (simp at h; done) | (simp at h; first | (exfalso; omega) | skip) | skip) | (refine (?_ : srcLen _ = rowsLen _); rfl) | exact (by kernel_rfl : drawOk _ _ = true) | refine eqv_len_map ?_ | refine eqv_wrap (by omega) (by omega) ?_ | (refine (?_ : _ ≤ 140737488355328); simp [rowsLen] <;> omega) | (refine (?_ : _ ≤ 9223372036854775807); simp [rowsLen] <;> omega) | (refine (?_ : _ = rowsLen _); simp [rowsLen] <;> omega) | (change vcFun _ _ _ _ _; refine call_one2 0 rfl (by assumption) (by assumption) (by omega) (by omega) ?_; intro bq kq hkq) | (change vcFunD _ _ _ _ _; refine callD_next 0 rfl (by assumption) (by assumption) (by omega) (by omega) ?_; intro v kq hv1 hv2 hkq) | fail)
                  all_goals first
                    | (exfalso; omega)
                    | skip
                  · exact ⟨(j + 1, kq, l0 :: (lds ++ [Load.mk i j (1 + v)])), ⟨by show j + 1 ≤ _; omega, hkq, j3.app hla hj1 (by omega) (by omega)⟩, (by show _ - (j + 1) < _; omega), back [0, 1, 2, 3, 4, 7] rfl rfl (by repeat' (first | exact trivial | exact rfl | refine And.intro ?_ ?_)) (by repeat' (first | exact trivial | exact rfl | refine And.intro ?_ ?_))⟩
                  · exact ⟨(j + 1, kq, l0 :: lds), ⟨by show j + 1 ≤ _; omega, hkq, j3.skip⟩, (by show _ - (j + 1) < _; omega), back [0, 1, 2, 3, 4, 5] rfl rfl (by repeat' (first | exact trivial | exact rfl | refine And.intro ?_ ?_)) (by repeat' (first | exact trivial | exact rfl | refine And.intro ?_ ?_))⟩
                · repeat' (first | (refine idx_sl (k := i) (at_map hla) (by omega) ?_) | refine o1 ?_ | refine o2 ?_ | refine k1 ?_ | refine k2 ?_ | refine k3 ?_ | refine k8 ?_ | refine And.intro ?_ ?_ | (intro h; first | exact Bool.noConfusion h | exact nz _ h | exact nl h | (simp at h; done) | (simp at h; first | (exfalso; omega) | skip) | skip) | refine eqv_len_map ?_ | refine eqv_wrap (by omega) (by omega) ?_ | fail)
                  exact ⟨(i + 1, k, l0 :: lds), ⟨by show i + 1 ≤ _; omega, j2, j3.toI (by omega)⟩, (by show _ - (i + 1) < _; omega), back [0, 1, 2, 3, 4, 5] rfl rfl (by repeat' (first | exact trivial | exact rfl | refine And.intro ?_ ?_)) (by repeat' (first | exact trivial | exact rfl | refine And.intro ?_ ?_))⟩
            · repeat' (first | refine o1 ?_ | refine o2 ?_ | refine k1 ?_ | refine k2 ?_ | refine k3 ?_ | refine k8 ?_ | refine And.intro ?_ ?_ | (intro h; first | exact Bool.noConfusion h | exact nz _ h | exact nl h | (simp at h; done) | (simp at h; first | (exfalso; omega) | skip) | skip) | refine eqv_len_map ?_ | fail)
              exact ⟨(k, []), ⟨i2, i3.at_, by simp⟩, Ghost.trans (Ghost.shut (i := 4) (c := 1) (x := .pv (.val (.slice none 0 0))) rfl rfl rfl (by repeat' (first | trivial)) (show ¬ (4 ∈ ([] : List Nat)) by decide) (ALe.pv PLe.nil)) (back [0, 1, 2, 3, 4] rfl rfl (by repeat' (first | exact trivial | exact rfl | refine And.intro ?_ ?_)) (by repeat' (first | exact trivial | exact rfl | refine And.intro ?_ ?_)))⟩
          · simp only [List.length_cons, List.length_nil] at il
            dsimp only [slP, obP, zeroM, mb, cb4, nilA, List.map, List.length_cons, List.length_nil, List.length_map]
            rcases Nat.lt_or_ge i cls.length with hi1 | hi1
            · obtain ⟨la, hla⟩ := getE hi1
              have hq1 := hcls la (List.mem_of_getElem? hla)
              have hq2 := hq1.2.1
              repeat' (first | refine o1 ?_ | refine o2 ?_ | refine k1 ?_ | refine k2 ?_ | refine k3 ?_ | refine k4 ?_ | refine k6 ?_ | refine And.intro ?_ ?_ | (intro h; first | exact Bool.noConfusion h | exact nz _ h | exact nl h | (simp at h; done) | (simp at h; first | (exfalso; omega) | skip) | skip) | refine eqv_len_map ?_ | fail)
              refine loop_in (fun x : Nat × Nat × List Load => [(22, vint .i64 x.1)]) (fun x => [dice t x.2.1, zeroM, mb (.pv (.sl 1 (cls.map optsRow))) (.pv (.sl 4 (prs.map Pair.row))) (slP 3 4 (List.map Count.row ([]))) r, obP 78 4 (List.map Count.row ([])), cb4 ru (slP 5 3 (List.map Load.row (x.2.2))) mo pe, obP 102 3 (List.map Load.row (x.2.2))]) (fun x => x.1 ≤ la.length ∧ x.2.1 ≤ t.length ∧ LoQ cls x.2.2 i x.1) (fun x => la.length - x.1) (0, k, l0 :: lds) ⟨Nat.zero_le _, i2, i3⟩ ⟨?_, ?_⟩
              · exact back [0, 1, 2, 3, 4, 5] rfl rfl (by repeat' (first | exact trivial | exact rfl | refine And.intro ?_ ?_)) (by repeat' (first | exact trivial | exact rfl | refine And.intro ?_ ?_))
              rintro ⟨j, k, lds⟩ ⟨j1, j2, j3⟩
              dsimp only at j1 j2 j3
              have jl := j3.len
              rcases lds with _ | ⟨l0, lds⟩
              · simp only [List.length_cons, List.length_nil] at jl
                dsimp only [slP, obP, zeroM, mb, cb4, nilA, List.map, List.length_cons, List.length_nil, List.length_map]
                rcases Nat.lt_or_ge j la.length with hj1 | hj1
                · repeat' (first | (refine idx_sl (k := i) (at_map hla) (by omega) ?_) | refine o1 ?_ | refine o2 ?_ | refine k1 ?_ | refine k2 ?_ | refine k3 ?_ | refine k4 ?_ | refine k6 ?_ | refine And.intro ?_ ?_ | refine o3 ?_ | refine o4 ?_ | (intro h; first | exact Bool.noConfusion h | exact nz _ h | exact nl h | (simp at h; done) | (simp at h; first | (exfalso; omega) | skip) | skip) | (refine (?_ : srcLen _ = rowsLen _); rfl) | exact Nat.le_of_ble_eq_true rfl | exact (by kernel_rfl : drawOk _ _ = true) | refine eqv_len_map ?_ | refine eqv_wrap (by omega) (by omega) ?_ | refine eqv_to _ (app_first rfl) (eqv_to 1 rfl ?_) | (change vcFun _ _ _ _ _; refine call_one2 0 rfl (by assumption) (by assumption) (by omega) (by omega) ?_; intro bq kq hkq) | (change vcFunD _ _ _ _ _; refine callD_next 0 rfl (by assumption) (by assumption) (by omega) (by omega) ?_; intro v kq hv1 hv2 hkq) | fail)
                  all_goals first
                    | (exfalso; omega)
                    | skip
                  · exact ⟨(j + 1, kq, [Load.mk i j (1 + v)]), ⟨by show j + 1 ≤ _; omega, hkq, j3.app hla hj1 (by omega) (by omega)⟩, (by show _ - (j + 1) < _; omega), back [0, 1, 2, 3, 4, 7] rfl rfl (by repeat' (first | exact trivial | exact rfl | refine And.intro ?_ ?_)) (by repeat' (first | exact trivial | exact rfl | refine And.intro ?_ ?_))⟩
                  · exact ⟨(j + 1, kq, []), ⟨by show j + 1 ≤ _; omega, hkq, j3.skip⟩, (by show _ - (j + 1) < _; omega), back [0, 1, 2, 3, 4, 5] rfl rfl (by repeat' (first | exact trivial | exact rfl | refine And.intro ?_ ?_)) (by repeat' (first | exact trivial | exact rfl | refine And.intro ?_ ?_))⟩
                · repeat' (first | (refine idx_sl (k := i) (at_map hla) (by omega) ?_) | refine o1 ?_ | refine o2 ?_ | refine k1 ?_ | refine k2 ?_ | refine k3 ?_ | refine k8 ?_ | refine And.intro ?_ ?_ | (intro h; first | exact Bool.noConfusion h | exact nz _ h | exact nl h | (simp at h; done) | (simp at h; first | (exfalso; omega) | skip) | skip) | refine eqv_len_map ?_ | refine eqv_wrap (by omega) (by omega) ?_ | fail)
                  exact ⟨(i + 1, k, []), ⟨by show i + 1 ≤ _; omega, j2, j3.toI (by omega)⟩, (by show _ - (i + 1) < _; omega), back [0, 1, 2, 3, 4, 5] rfl rfl (by repeat' (first | exact trivial | exact rfl | refine And.intro ?_ ?_)) (by repeat' (first | exact trivial | exact rfl | refine And.intro ?_ ?_))⟩
              · simp only [List.length_cons, List.length_nil] at jl
                dsimp only [slP, obP, zeroM, mb, cb4, nilA, List.map, List.length_cons, List.length_nil, List.length_map]
                rcases Nat.lt_or_ge j la.length with hj1 | hj1
                · repeat' (first | (refine idx_sl (k := i) (at_map hla) (by omega) ?_) | (refine app_consm (f := Load.row) (Load.mk i j (1 + v)) rfl ?_) | refine o1 ?_ | refine o2 ?_ | refine k1 ?_ | refine k2 ?_ | refine k3 ?_ | refine k4 ?_ | refine k6 ?_ | refine And.intro ?_ ?_ | refine o3 ?_ | refine o4 ?_ | (intro h; first | exact Bool.noConfusion h | exact nz _ h | exact nl h | (simp at h; done) | (simp at h; first | (exfalso; omega) | skip) | skip) | (refine (?_ : srcLen _ = rowsLen _); rfl) | exact (by kernel_rfl : drawOk _ _ = true) | refine eqv_len_map ?_ | refine eqv_wrap (by omega) (by omega) ?_ | (refine (?_ : _ ≤ 140737488355328); simp [rowsLen] <;> omega) | (refine (?_ : _ ≤ 9223372036854775807); simp [rowsLen] <;> omega) | (refine (?_ : _ = rowsLen _); simp [rowsLen] <;> omega) | (change vcFun _ _ _ _ _; refine call_one2 0 rfl (by assumption) (by assumption) (by omega) (by omega) ?_; intro bq kq hkq) | (change vcFunD _ _ _ _ _; refine callD_next 0 rfl (by assumption) (by assumption) (by omega) (by omega) ?_; intro v kq hv1 hv2 hkq) | fail)
                  all_goals first
                    | (exfalso; omega)
                    | skip
                  · exact ⟨(j + 1, kq, l0 :: (lds ++ [Load.mk i j (1 + v)])), ⟨by show j + 1 ≤ _; omega, hkq, j3.app hla hj1 (by omega) (by omega)⟩, (by show _ - (j + 1) < _; omega), back [0, 1, 2, 3, 4, 7] rfl rfl (by repeat' (first | exact trivial | exact rfl | refine And.intro ?_ ?_)) (by repeat' (first | exact trivial | exact rfl | refine And.intro ?_ ?_))⟩
                  · exact ⟨(j + 1, kq, l0 :: lds), ⟨by show j + 1 ≤ _; omega, hkq, j3.skip⟩, (by show _ - (j + 1) < _; omega), back [0, 1, 2, 3, 4, 5] rfl rfl (by repeat' (first | exact trivial | exact rfl | refine And.intro ?_ ?_)) (by repeat' (first | exact trivial | exact rfl | refine And.intro ?_ ?_))⟩
                · repeat' (first | (refine idx_sl (k := i) (at_map hla) (by omega) ?_) | refine o1 ?_ | refine o2 ?_ | refine k1 ?_ | refine k2 ?_ | refine k3 ?_ | refine k8 ?_ | refine And.intro ?_ ?_ | (intro h; first | exact Bool.noConfusion h | exact nz _ h | exact nl h | (simp at h; done) | (simp at h; first | (exfalso; omega) | skip) | skip) | refine eqv_len_map ?_ | refine eqv_wrap (by omega) (by omega) ?_ | fail)
                  exact ⟨(i + 1, k, l0 :: lds), ⟨by show i + 1 ≤ _; omega, j2, j3.toI (by omega)⟩, (by show _ - (i + 1) < _; omega), back [0, 1, 2, 3, 4, 5] rfl rfl (by repeat' (first | exact trivial | exact rfl | refine And.intro ?_ ?_)) (by repeat' (first | exact trivial | exact rfl | refine And.intro ?_ ?_))⟩
            · repeat' (first | refine o1 ?_ | refine o2 ?_ | refine k1 ?_ | refine k2 ?_ | refine k3 ?_ | refine k8 ?_ | refine And.intro ?_ ?_ | (intro h; first | exact Bool.noConfusion h | exact nz _ h | exact nl h | (simp at h; done) | (simp at h; first | (exfalso; omega) | skip) | skip) | refine eqv_len_map ?_ | fail)
              exact ⟨(k, l0 :: lds), ⟨i2, i3.at_, by simp only [List.length_cons]; omega⟩, Ghost.trans (Ghost.shut (i := 4) (c := 1) (x := .ms 5 3 0 ((List.map Load.row lds).length + 1)) rfl rfl rfl (by repeat' (first | (show 0 + _ ≤ List.length _; simp))) (show ¬ (4 ∈ ([5] : List Nat)) by decide) (ALe.pv (whole_le (f := Load.row) (l := l0 :: lds) (by simp)))) (back [0, 1, 2, 3, 4] rfl rfl (by repeat' (first | exact trivial | exact rfl | refine And.intro ?_ ?_)) (by repeat' (first | exact trivial | exact rfl | refine And.intro ?_ ?_)))⟩
        refine ⟨?_⟩
        rintro ⟨k, lds⟩ ⟨f1, f2, f3⟩
        dsimp only at f1 f2 f3
        dsimp only [slP, obP, zeroM, mb, cb4, nilA, List.map, List.length_cons, List.length_nil, List.length_map]
        repeat' (first | refine o1 ?_ | refine o2 ?_ | refine k2 ?_ | refine And.intro ?_ ?_ | (intro h; first | exact Bool.noConfusion h | exact nz _ h | exact nl h | (simp at h; done) | (simp at h; first | (exfalso; omega) | skip) | skip) | (refine (?_ : srcLen _ = rowsLen _); rfl) | exact Nat.le_of_ble_eq_true rfl | refine eqv_wrap (by omega) (by omega) ?_ | refine eqv_to _ (app_first rfl) (eqv_to 1 rfl ?_) | fail)
        exact ⟨(n - 1, k, [Count.mk ru lds mo pe]), ⟨by show n - 1 + List.length _ ≤ 2; simp; try omega, f1, all_app (l := []) d3 (show CtQ cls r (Count.mk ru lds mo pe) from ⟨⟨m2, m3.1, by have := m3.2; dsimp only; omega, m4, f2⟩, f3⟩)⟩, (by show n - 1 < n; omega), back [0, 1, 2, 6] rfl rfl (by repeat' (first | exact trivial | exact rfl | refine And.intro ?_ ?_)) ⟨slot_eq rfl (congrArg (vint .i64) (by show _ = ((n - 1 : Nat) : Int); omega)), (by repeat' (first | exact trivial | exact rfl | refine And.intro ?_ ?_))⟩⟩
    · simp only [List.length_cons, List.length_nil] at d1
      dsimp only [slP, obP, zeroM, mb, cb4, nilA, List.map, List.length_cons, List.length_nil, List.length_map]
      rcases Nat.eq_zero_or_pos n with rfl | hn
      · repeat' (first | refine o1 ?_ | refine o2 ?_ | refine k1 ?_ | refine k2 ?_ | refine k3 ?_ | refine k8 ?_ | refine And.intro ?_ ?_ | (intro h; first | exact Bool.noConfusion h | exact nz _ h | exact nl h | (simp at h; done) | (simp at h; first | (exfalso; omega) | skip) | skip) | fail)
        exact ⟨(k, c0 :: cts), ⟨d2, by simp only [List.length_cons]; omega, d3⟩, Ghost.trans (Ghost.shut (i := 2) (c := 2) (x := .ms 3 4 0 ((List.map Count.row cts).length + 1)) rfl rfl rfl (by repeat' (first | (show 0 + _ ≤ List.length _; simp))) (show ¬ (2 ∈ ([3] : List Nat)) by decide) (ALe.pv (whole_le (f := Count.row) (l := c0 :: cts) (by simp)))) (back [0, 1, 2] rfl rfl (by repeat' (first | exact trivial | exact rfl | refine And.intro ?_ ?_)) (by repeat' (first | exact trivial | exact rfl | refine And.intro ?_ ?_)))⟩
      · repeat' (first | ((change vcFun _ _ _ _ _; refine call_cost 0 rfl (by assumption) (by assumption) ?_; intro cn kc hcn hkc)) | (refine join_in (a := .region 37 _ _) (fun _ => [(20, .ptr 4 4 0 0)]) (fun x : Nat × Int × Int × Int => [dice t x.1, zeroM, mb (.pv (.sl 1 (cls.map optsRow))) (.pv (.sl 4 (prs.map Pair.row))) (slP 3 4 (List.map Count.row (c0 :: cts))) r, obP 78 4 (List.map Count.row (c0 :: cts)), cb4 x.2.1 nilA x.2.2.1 x.2.2.2]) (fun x => x.1 ≤ t.length ∧ (0 ≤ x.2.1 ∧ x.2.1 < r) ∧ (0 ≤ x.2.2.1 ∧ x.2.2.1 < 4) ∧ priceP x.2.2.2) ?_) | refine o1 ?_ | refine o2 ?_ | refine k1 ?_ | refine k2 ?_ | refine k3 ?_ | refine k4 ?_ | refine k6 ?_ | refine And.intro ?_ ?_ | (intro h; first | exact Bool.noConfusion h | exact nz _ h | exact nl h | (simp at h; done) | (simp at h; first | (exfalso; omega) | skip) | skip) | exact (by kernel_rfl : drawOk _ _ = true) | (change vcFun _ _ _ _ _; refine call_next 0 rfl (by assumption) (by assumption) (by omega) (by omega) ?_; intro v kq hv1 hv2 hkq) | fail)
        · rename_i v1 q1 a1 a2 a3
          refine ⟨(kc, v1, v, _), ⟨hkc, ⟨a1, a2⟩, ⟨hv1, hv2⟩, ?_⟩, back [0, 1, 2, 3, 4] rfl rfl ⟨rfl, rfl, rfl, rfl, rfl, trivial⟩ (by repeat' (first | exact trivial | exact rfl | refine And.intro ?_ ?_))⟩
          dsimp only
          exact pen_ok hcn
        refine ⟨?_⟩
        rintro ⟨k, ru, mo, pe⟩ ⟨m1, m2, m3, m4⟩
        dsimp only at m1 m2 m3 m4
        dsimp only [slP, obP, zeroM, mb, cb4, nilA, List.map, List.length_cons, List.length_nil, List.length_map]
        repeat' (first | (refine join_in (a := .seq (.region 38 _ _) _) (fun _ => []) (fun x : Nat × List Load => [dice t x.1, zeroM, mb (.pv (.sl 1 (cls.map optsRow))) (.pv (.sl 4 (prs.map Pair.row))) (slP 3 4 (List.map Count.row (c0 :: cts))) r, obP 78 4 (List.map Count.row (c0 :: cts)), cb4 ru (.pv (.sl 3 (x.2.map Load.row))) mo pe]) (fun x => x.1 ≤ t.length ∧ (∀ n, n < x.2.length → loadAt ⟨cls, [], [], 0⟩ x.2 n) ∧ x.2.length ≤ 1000) ?_) | refine o1 ?_ | refine o2 ?_ | refine k1 ?_ | refine k2 ?_ | refine k4 ?_ | refine And.intro ?_ ?_ | fail)
        · refine loop_in (fun x : Nat × Nat × List Load => [(21, vint .i64 x.1)]) (fun x => [dice t x.2.1, zeroM, mb (.pv (.sl 1 (cls.map optsRow))) (.pv (.sl 4 (prs.map Pair.row))) (slP 3 4 (List.map Count.row (c0 :: cts))) r, obP 78 4 (List.map Count.row (c0 :: cts)), cb4 ru (slP 5 3 (List.map Load.row (x.2.2))) mo pe, obP 102 3 (List.map Load.row (x.2.2))]) (fun x => x.1 ≤ cls.length ∧ x.2.1 ≤ t.length ∧ LoQ cls x.2.2 x.1 0) (fun x => cls.length - x.1) (0, k, []) ⟨Nat.zero_le _, m1, LoQ.nil⟩ ⟨?_, ?_⟩
          · exact back [0, 1, 2, 3, 4, 5] rfl rfl (by repeat' (first | exact trivial | exact rfl | refine And.intro ?_ ?_)) (by repeat' (first | exact trivial | exact rfl | refine And.intro ?_ ?_))
          rintro ⟨i, k, lds⟩ ⟨i1, i2, i3⟩
          dsimp only at i1 i2 i3
          have il := i3.len
          rcases lds with _ | ⟨l0, lds⟩
          · simp only [List.length_cons, List.length_nil] at il
            dsimp only [slP, obP, zeroM, mb, cb4, nilA, List.map, List.length_cons, List.length_nil, List.length_map]
            rcases Nat.lt_or_ge i cls.length with hi1 | hi1
            · obtain ⟨la, hla⟩ := getE hi1
              have hq1 := hcls la (List.mem_of_getElem? hla)
              have hq2 := hq1.2.1
              repeat' (first | refine o1 ?_ | refine o2 ?_ | refine k1 ?_ | refine k2 ?_ | refine k3 ?_ | refine k4 ?_ | refine k6 ?_ | refine And.intro ?_ ?_ | (intro h; first | exact Bool.noConfusion h | exact nz _ h | exact nl h | (simp at h; done) | (simp at h; first | (exfalso; omega) | skip) | skip) | refine eqv_len_map ?_ | fail)
              refine loop_in (fun x : Nat × Nat × List Load => [(22, vint .i64 x.1)]) (fun x => [dice t x.2.1, zeroM, mb (.pv (.sl 1 (cls.map optsRow))) (.pv (.sl 4 (prs.map Pair.row))) (slP 3 4 (List.map Count.row (c0 :: cts))) r, obP 78 4 (List.map Count.row (c0 :: cts)), cb4 ru (slP 5 3 (List.map Load.row (x.2.2))) mo pe, obP 102 3 (List.map Load.row (x.2.2))]) (fun x => x.1 ≤ la.length ∧ x.2.1 ≤ t.length ∧ LoQ cls x.2.2 i x.1) (fun x => la.length - x.1) (0, k, []) ⟨Nat.zero_le _, i2, i3⟩ ⟨?_, ?_⟩
              · exact back [0, 1, 2, 3, 4, 5] rfl rfl (by repeat' (first | exact trivial | exact rfl | refine And.intro ?_ ?_)) (by repeat' (first | exact trivial | exact rfl | refine And.intro ?_ ?_))
              rintro ⟨j, k, lds⟩ ⟨j1, j2, j3⟩
              dsimp only at j1 j2 j3
              have jl := j3.len
              rcases lds with _ | ⟨l0, lds⟩
              · simp only [List.length_cons, List.length_nil] at jl
                dsimp only [slP, obP, zeroM, mb, cb4, nilA, List.map, List.length_cons, List.length_nil, List.length_map]
                rcases Nat.lt_or_ge j la.length with hj1 | hj1
                · repeat' (first | (refine idx_sl (k := i) (at_map hla) (by omega) ?_) | refine o1 ?_ | refine o2 ?_ | refine k1 ?_ | refine k2 ?_ | refine k3 ?_ | refine k4 ?_ | refine k6 ?_ | refine And.intro ?_ ?_ | refine o3 ?_ | refine o4 ?_ | (intro h; first | exact Bool.noConfusion h | exact nz _ h | exact nl h | (simp at h; done) | (simp at h; first | (exfalso; omega) | skip) | skip) | (refine (?_ : srcLen _ = rowsLen _); rfl) | exact Nat.le_of_ble_eq_true rfl | exact (by kernel_rfl : drawOk _ _ = true) | refine eqv_len_map ?_ | refine eqv_wrap (by omega) (by omega) ?_ | refine eqv_to _ (app_first rfl) (eqv_to 1 rfl ?_) | (change vcFun _ _ _ _ _; refine call_one2 0 rfl (by assumption) (by assumption) (by omega) (by omega) ?_; intro bq kq hkq) | (change vcFunD _ _ _ _ _; refine callD_next 0 rfl (by assumption) (by assumption) (by omega) (by omega) ?_; intro v kq hv1 hv2 hkq) | fail)
                  all_goals first
                    | (exfalso; omega)
                    | skip
                  · exact ⟨(j + 1, kq, [Load.mk i j (1 + v)]), ⟨by show j + 1 ≤ _; omega, hkq, j3.app hla hj1 (by omega) (by omega)⟩, (by show _ - (j + 1) < _; omega), back [0, 1, 2, 3, 4, 7] rfl rfl (by repeat' (first | exact trivial | exact rfl | refine And.intro ?_ ?_)) (by repeat' (first | exact trivial | exact rfl | refine And.intro ?_ ?_))⟩
                  · exact ⟨(j + 1, kq, []), ⟨by show j + 1 ≤ _; omega, hkq, j3.skip⟩, (by show _ - (j + 1) < _; omega), back [0, 1, 2, 3, 4, 5] rfl rfl (by repeat' (first | exact trivial | exact rfl | refine And.intro ?_ ?_)) (by repeat' (first | exact trivial | exact rfl | refine And.intro ?_ ?_))⟩
                · repeat' (first | (refine idx_sl (k := i) (at_map hla) (by omega) ?_) | refine o1 ?_ | refine o2 ?_ | refine k1 ?_ | refine k2 ?_ | refine k3 ?_ | refine k8 ?_ | refine And.intro ?_ ?_ | (intro h; first | exact Bool.noConfusion h | exact nz _ h | exact nl h | (simp at h; done) | (simp at h; first | (exfalso; omega) | skip) | skip) | refine eqv_len_map ?_ | refine eqv_wrap (by omega) (by omega) ?_ | fail)
                  exact ⟨(i + 1, k, []), ⟨by show i + 1 ≤ _; omega, j2, j3.toI (by omega)⟩, (by show _ - (i + 1) < _; omega), back [0, 1, 2, 3, 4, 5] rfl rfl (by repeat' (first | exact trivial | exact rfl | refine And.intro ?_ ?_)) (by repeat' (first | exact trivial | exact rfl | refine And.intro ?_ ?_))⟩
              · simp only [List.length_cons, List.length_nil] at jl
                dsimp only [slP, obP, zeroM, mb, cb4, nilA, List.map, List.length_cons, List.length_nil, List.length_map]
                rcases Nat.lt_or_ge j la.length with hj1 | hj1
                · repeat' (first | (refine idx_sl (k := i) (at_map hla) (by omega) ?_) | (refine app_consm (f := Load.row) (Load.mk i j (1 + v)) rfl ?_) | refine o1 ?_ | refine o2 ?_ | refine k1 ?_ | refine k2 ?_ | refine k3 ?_ | refine k4 ?_ | refine k6 ?_ | refine And.intro ?_ ?_ | refine o3 ?_ | refine o4 ?_ | (intro h; first | exact Bool.noConfusion h | exact nz _ h | exact nl h | (simp at h; done) | (simp at h; first | (exfalso; omega) | skip) | skip) | (refine (?_ : srcLen _ = rowsLen _); rfl) | exact (by kernel_rfl : drawOk _ _ = true) | refine eqv_len_map ?_ | refine eqv_wrap (by omega) (by omega) ?_ | (refine (?_ : _ ≤ 140737488355328); simp [rowsLen] <;> omega) | (refine (?_ : _ ≤ 9223372036854775807); simp [rowsLen] <;> omega) | (refine (?_ : _ = rowsLen _); simp [rowsLen] <;> omega) | (change vcFun _ _ _ _ _; refine call_one2 0 rfl (by assumption) (by assumption) (by omega) (by omega) ?_; intro bq kq hkq) | (change vcFunD _ _ _ _ _; refine callD_next 0 rfl (by assumption) (by assumption) (by omega) (by omega) ?_; intro v kq hv1 hv2 hkq) | fail)
                  all_goals first
                    | (exfalso; omega)
                    | skip
                  · exact ⟨(j + 1, kq, l0 :: (lds ++ [Load.mk i j (1 + v)])), ⟨by show j + 1 ≤ _; omega, hkq, j3.app hla hj1 (by omega) (by omega)⟩, (by show _ - (j + 1) < _; omega), back [0, 1, 2, 3, 4, 7] rfl rfl (by repeat' (first | exact trivial | exact rfl | refine And.intro ?_ ?_)) (by repeat' (first | exact trivial | exact rfl | refine And.intro ?_ ?_))⟩
                  · exact ⟨(j + 1, kq, l0 :: lds), ⟨by show j + 1 ≤ _; omega, hkq, j3.skip⟩, (by show _ - (j + 1) < _; omega), back [0, 1, 2, 3, 4, 5] rfl rfl (by repeat' (first | exact trivial | exact rfl | refine And.intro ?_ ?_)) (by repeat' (first | exact trivial | exact rfl | refine And.intro ?_ ?_))⟩
                · repeat' (first | (refine idx_sl (k := i) (at_map hla) (by omega) ?_) | refine o1 ?_ | refine o2 ?_ | refine k1 ?_ | refine k2 ?_ | refine k3 ?_ | refine k8 ?_ | refine And.intro ?_ ?_ | (intro h; first | exact Bool.noConfusion h | exact nz _ h | exact nl h | (simp at h; done) | (simp at h; first | (exfalso; omega) | skip) | skip) | refine eqv_len_map ?_ | refine eqv_wrap (by omega) (by omega) ?_ | fail)
                  exact ⟨(i + 1, k, l0 :: lds), ⟨by show i + 1 ≤ _; omega, j2, j3.toI (by omega)⟩, (by show _ - (i + 1) < _; omega), back [0, 1, 2, 3, 4, 5] rfl rfl (by repeat' (first | exact trivial | exact rfl | refine And.intro ?_ ?_)) (by repeat' (first | exact trivial | exact rfl | refine And.intro ?_ ?_))⟩
            · repeat' (first | refine o1 ?_ | refine o2 ?_ | refine k1 ?_ | refine k2 ?_ | refine k3 ?_ | refine k8 ?_ | refine And.intro ?_ ?_ | (intro h; first | exact Bool.noConfusion h | exact nz _ h | exact nl h | (simp at h; done) | (simp at h; first | (exfalso; omega) | skip) | skip) | refine eqv_len_map ?_ | fail)
              exact ⟨(k, []), ⟨i2, i3.at_, by simp⟩, Ghost.trans (Ghost.shut (i := 4) (c := 1) (x := .pv (.val (.slice none 0 0))) rfl rfl rfl (by repeat' (first | trivial)) (show ¬ (4 ∈ ([] : List Nat)) by decide) (ALe.pv PLe.nil)) (back [0, 1, 2, 3, 4] rfl rfl (by repeat' (first | exact trivial | exact rfl | refine And.intro ?_ ?_)) (by repeat' (first | exact trivial | exact rfl | refine And.intro ?_ ?_)))⟩
          · simp only [List.length_cons, List.length_nil] at il
            dsimp only [slP, obP, zeroM, mb, cb4, nilA, List.map, List.length_cons, List.length_nil, List.length_map]
            rcases Nat.lt_or_ge i cls.length with hi1 | hi1
            · obtain ⟨la, hla⟩ := getE hi1
              have hq1 := hcls la (List.mem_of_getElem? hla)
              have hq2 := hq1.2.1
              repeat' (first | refine o1 ?_ | refine o2 ?_ | refine k1 ?_ | refine k2 ?_ | refine k3 ?_ | refine k4 ?_ | refine k6 ?_ | refine And.intro ?_ ?_ | (intro h; first | exact Bool.noConfusion h | exact nz _ h | exact nl h | (simp at h; done) | (simp at h; first | (exfalso; omega) | skip) | skip) | refine eqv_len_map ?_ | fail)
              refine loop_in (fun x : Nat × Nat × List Load => [(22, vint .i64 x.1)]) (fun x => [dice t x.2.1, zeroM, mb (.pv (.sl 1 (cls.map optsRow))) (.pv (.sl 4 (prs.map Pair.row))) (slP 3 4 (List.map Count.row (c0 :: cts))) r, obP 78 4 (List.map Count.row (c0 :: cts)), cb4 ru (slP 5 3 (List.map Load.row (x.2.2))) mo pe, obP 102 3 (List.map Load.row (x.2.2))]) (fun x => x.1 ≤ la.length ∧ x.2.1 ≤ t.length ∧ LoQ cls x.2.2 i x.1) (fun x => la.length - x.1) (0, k, l0 :: lds) ⟨Nat.zero_le _, i2, i3⟩ ⟨?_, ?_⟩
              · exact back [0, 1, 2, 3, 4, 5] rfl rfl (by repeat' (first | exact trivial | exact rfl | refine And.intro ?_ ?_)) (by repeat' (first | exact trivial | exact rfl | refine And.intro ?_ ?_))
              rintro ⟨j, k, lds⟩ ⟨j1, j2, j3⟩
              dsimp only at j1 j2 j3
              have jl := j3.len
              rcases lds with _ | ⟨l0, lds⟩
              · simp only [List.length_cons, List.length_nil] at jl
                dsimp only [slP, obP, zeroM, mb, cb4, nilA, List.map, List.length_cons, List.length_nil, List.length_map]
                rcases Nat.lt_or_ge j la.length with hj1 | hj1
                · repeat' (first | (refine idx_sl (k := i) (at_map hla) (by omega) ?_) | refine o1 ?_ | refine o2 ?_ | refine k1 ?_ | refine k2 ?_ | refine k3 ?_ | refine k4 ?_ | refine k6 ?_ | refine And.intro ?_ ?_ | refine o3 ?_ | refine o4 ?_ | (intro h; first | exact Bool.noConfusion h | exact nz _ h | exact nl h | (simp at h; done) | (simp at h; first | (exfalso; omega) | skip) | skip) | (refine (?_ : srcLen _ = rowsLen _); rfl) | exact Nat.le_of_ble_eq_true rfl | exact (by kernel_rfl : drawOk _ _ = true) | refine eqv_len_map ?_ | refine eqv_wrap (by omega) (by omega) ?_ | refine eqv_to _ (app_first rfl) (eqv_to 1 rfl ?_) | (change vcFun _ _ _ _ _; refine call_one2 0 rfl (by assumption) (by assumption) (by omega) (by omega) ?_; intro bq kq hkq) | (change vcFunD _ _ _ _ _; refine callD_next 0 rfl (by assumption) (by assumption) (by omega) (by omega) ?_; intro v kq hv1 hv2 hkq) | fail)
                  all_goals first
                    | (exfalso; omega)
                    | skip
                  · exact ⟨(j + 1, kq, [Load.mk i j (1 + v)]), ⟨by show j + 1 ≤ _; omega, hkq, j3.app hla hj1 (by omega) (by omega)⟩, (by show _ - (j + 1) < _; omega), back [0, 1, 2, 3, 4, 7] rfl rfl (by repeat' (first | exact trivial | exact rfl | refine And.intro ?_ ?_)) (by repeat' (first | exact trivial | exact rfl | refine And.intro ?_ ?_))⟩
                  · exact ⟨(j + 1, kq, []), ⟨by show j + 1 ≤ _; omega, hkq, j3.skip⟩, (by show _ - (j + 1) < _; omega), back [0, 1, 2, 3, 4, 5] rfl rfl (by repeat' (first | exact trivial | exact rfl | refine And.intro ?_ ?_)) (by repeat' (first | exact trivial | exact rfl | refine And.intro ?_ ?_))⟩
                · repeat' (first | (refine idx_sl (k := i) (at_map hla) (by omega) ?_) | refine o1 ?_ | refine o2 ?_ | refine k1 ?_ | refine k2 ?_ | refine k3 ?_ | refine k8 ?_ | refine And.intro ?_ ?_ | (intro h; first | exact Bool.noConfusion h | exact nz _ h | exact nl h | (simp at h; done) | (simp at h; first | (exfalso; omega) | skip) | skip) | refine eqv_len_map ?_ | refine eqv_wrap (by omega) (by omega) ?_ | fail)
                  exact ⟨(i + 1, k, []), ⟨by show i + 1 ≤ _; omega, j2, j3.toI (by omega)⟩, (by show _ - (i + 1) < _; omega), back [0, 1, 2, 3, 4, 5] rfl rfl (by repeat' (first | exact trivial | exact rfl | refine And.intro ?_ ?_)) (by repeat' (first | exact trivial | exact rfl | refine And.intro ?_ ?_))⟩
              · simp only [List.length_cons, List.length_nil] at jl
                dsimp only [slP, obP, zeroM, mb, cb4, nilA, List.map, List.length_cons, List.length_nil, List.length_map]
                rcases Nat.lt_or_ge j la.length with hj1 | hj1
                · repeat' (first | (refine idx_sl (k := i) (at_map hla) (by omega) ?_) | (refine app_consm (f := Load.row) (Load.mk i j (1 + v)) rfl ?_) | refine o1 ?_ | refine o2 ?_ | refine k1 ?_ | refine k2 ?_ | refine k3 ?_ | refine k4 ?_ | refine k6 ?_ | refine And.intro ?_ ?_ | refine o3 ?_ | refine o4 ?_ | (intro h; first | exact Bool.noConfusion h | exact nz _ h | exact nl h | (simp at h; done) | (simp at h; first | (exfalso; omega) | skip) | skip) | (refine (?_ : srcLen _ = rowsLen _); rfl) | exact (by kernel_rfl : drawOk _ _ = true) | refine eqv_len_map ?_ | refine eqv_wrap (by omega) (by omega) ?_ | (refine (?_ : _ ≤ 140737488355328); simp [rowsLen] <;> omega) | (refine (?_ : _ ≤ 9223372036854775807); simp [rowsLen] <;> omega) | (refine (?_ : _ = rowsLen _); simp [rowsLen] <;> omega) | (change vcFun _ _ _ _ _; refine call_one2 0 rfl (by assumption) (by assumption) (by omega) (by omega) ?_; intro bq kq hkq) | (change vcFunD _ _ _ _ _; refine callD_next 0 rfl (by assumption) (by assumption) (by omega) (by omega) ?_; intro v kq hv1 hv2 hkq) | fail)
                  all_goals first
                    | (exfalso; omega)
                    | skip
                  · exact ⟨(j + 1, kq, l0 :: (lds ++ [Load.mk i j (1 + v)])), ⟨by show j + 1 ≤ _; omega, hkq, j3.app hla hj1 (by omega) (by omega)⟩, (by show _ - (j + 1) < _; omega), back [0, 1, 2, 3, 4, 7] rfl rfl (by repeat' (first | exact trivial | exact rfl | refine And.intro ?_ ?_)) (by repeat' (first | exact trivial | exact rfl | refine And.intro ?_ ?_))⟩
                  · exact ⟨(j + 1, kq, l0 :: lds), ⟨by show j + 1 ≤ _; omega, hkq, j3.skip⟩, (by show _ - (j + 1) < _; omega), back [0, 1, 2, 3, 4, 5] rfl rfl (by repeat' (first | exact trivial | exact rfl | refine And.intro ?_ ?_)) (by repeat' (first | exact trivial | exact rfl | refine And.intro ?_ ?_))⟩
                · repeat' (first | (refine idx_sl (k := i) (at_map hla) (by omega) ?_) | refine o1 ?_ | refine o2 ?_ | refine k1 ?_ | refine k2 ?_ | refine k3 ?_ | refine k8 ?_ | refine And.intro ?_ ?_ | (intro h; first | exact Bool.noConfusion h | exact nz _ h | exact nl h | (simp at h; done) | (simp at h; first | (exfalso; omega) | skip) | skip) | refine eqv_len_map ?_ | refine eqv_wrap (by omega) (by omega) ?_ | fail)
                  exact ⟨(i + 1, k, l0 :: lds), ⟨by show i + 1 ≤ _; omega, j2, j3.toI (by omega)⟩, (by show _ - (i + 1) < _; omega), back [0, 1, 2, 3, 4, 5] rfl rfl (by repeat' (first | exact trivial | exact rfl | refine And.intro ?_ ?_)) (by repeat' (first | exact trivial | exact rfl | refine And.intro ?_ ?_))⟩
            · repeat' (first | refine o1 ?_ | refine o2 ?_ | refine k1 ?_ | refine k2 ?_ | refine k3 ?_ | refine k8 ?_ | refine And.intro ?_ ?_ | (intro h; first | exact Bool.noConfusion h | exact nz _ h | exact nl h | (simp at h; done) | (simp at h; first | (exfalso; omega) | skip) | skip) | refine eqv_len_map ?_ | fail)
              exact ⟨(k, l0 :: lds), ⟨i2, i3.at_, by simp only [List.length_cons]; omega⟩, Ghost.trans (Ghost.shut (i := 4) (c := 1) (x := .ms 5 3 0 ((List.map Load.row lds).length + 1)) rfl rfl rfl (by repeat' (first | (show 0 + _ ≤ List.length _; simp))) (show ¬ (4 ∈ ([5] : List Nat)) by decide) (ALe.pv (whole_le (f := Load.row) (l := l0 :: lds) (by simp)))) (back [0, 1, 2, 3, 4] rfl rfl (by repeat' (first | exact trivial | exact rfl | refine And.intro ?_ ?_)) (by repeat' (first | exact trivial | exact rfl | refine And.intro ?_ ?_)))⟩
        refine ⟨?_⟩
        rintro ⟨k, lds⟩ ⟨f1, f2, f3⟩
        dsimp only at f1 f2 f3
        dsimp only [slP, obP, zeroM, mb, cb4, nilA, List.map, List.length_cons, List.length_nil, List.length_map]
        repeat' (first | (refine app_consm (f := Count.row) (Count.mk ru lds mo pe) rfl ?_) | refine o1 ?_ | refine o2 ?_ | refine k2 ?_ | refine And.intro ?_ ?_ | (refine (?_ : srcLen _ = rowsLen _); rfl) | refine eqv_wrap (by omega) (by omega) ?_ | (refine (?_ : _ ≤ 140737488355328); simp [rowsLen] <;> omega) | (refine (?_ : _ ≤ 9223372036854775807); simp [rowsLen] <;> omega) | (refine (?_ : _ = rowsLen _); simp [rowsLen] <;> omega) | fail)
        exact ⟨(n - 1, k, c0 :: (cts ++ [Count.mk ru lds mo pe])), ⟨by show n - 1 + List.length _ ≤ 2; simp; try omega, f1, all_app (l := c0 :: cts) d3 (show CtQ cls r (Count.mk ru lds mo pe) from ⟨⟨m2, m3.1, by have := m3.2; dsimp only; omega, m4, f2⟩, f3⟩)⟩, (by show n - 1 < n; omega), back [0, 1, 2, 6] rfl rfl (by repeat' (first | exact trivial | exact rfl | refine And.intro ?_ ?_)) ⟨slot_eq rfl (congrArg (vint .i64) (by show _ = ((n - 1 : Nat) : Int); omega)), (by repeat' (first | exact trivial | exact rfl | refine And.intro ?_ ?_))⟩⟩
  · exact later
end Go.Proofs.YtihpjcmloecaaaaGreat.Cw
/-
  Made models: the walk.
-/
namespace Go.Proofs.YtihpjcmloecaaaaGreat.Cw
open Go.Cw Go.Proofs
set_option linter.unusedVariables false
set_option maxRecDepth 100000
set_option maxHeartbeats 30000000
theorem c_dmodelX (t : List Int) (k : Nat) (ht : t.length ≤ 400) (hk : k ≤ t.length) (a b : Int) (ha : 0 ≤ a ∧ a ≤ 5) (hb : 1 ≤ b ∧ b ≤ 4) :
    ACall Tryz.prog 32 [.ptr 0 2 0 0, vint .i64 a, vint .i64 b] [dice t k] (fun r H' => ∃ (m : Model) (k' : Nat), k' ≤ t.length ∧ Made m ∧ (m.pairs.length ≤ 200 ∧ m.counts.length ≤ 2) ∧ r = ag m.cells ∧ H' = [dice t k']) := by
  refine acall_of tok mixed 199 rfl (fn := Tryz.f32) (c := Tryz.f32.body.getD .skip) (by kernel_rfl) (by kernel_rfl) (by kernel_rfl) rfl 1 rfl ?_
  repeat' (first | (refine join_in (a := .region 1 _ _) (fun _ => [(7, .ptr 2 4 0 0)]) (fun x : Nat × Int => [dice t x.1, zeroM, mb nilA nilA nilA x.2]) (fun x => x.1 ≤ t.length ∧ 1 ≤ x.2 ∧ x.2 ≤ 4) ?_) | refine o1 ?_ | refine o2 ?_ | refine k1 ?_ | refine k2 ?_ | refine And.intro ?_ ?_ | exact (by kernel_rfl : drawOk _ _ = true) | refine eqv_wrap (by omega) (by omega) ?_ | (change vcFun _ _ _ _ _; refine call_next 0 rfl (by assumption) (by assumption) (by omega) (by omega) ?_; intro v kq hv1 hv2 hkq) | fail)
  · exact ⟨(kq, 1 + v), ⟨hkq, by dsimp only; omega, by dsimp only; omega⟩, back [0, 1, 2] rfl rfl (by repeat' (first | exact trivial | exact rfl | refine And.intro ?_ ?_)) (by repeat' (first | exact trivial | exact rfl | refine And.intro ?_ ?_))⟩
  refine ⟨?_⟩
  rintro ⟨k, r⟩ ⟨r0, r1, r2⟩
  dsimp only at r0 r1 r2
  rw [forceH_eq]
  refine stageB t ht a b r r1 r2 k r0 ha hb ?_
  refine ⟨?_⟩
  rintro ⟨k, cls⟩ ⟨s1, s2, hcls⟩
  dsimp only at s1 s2 hcls
  rw [forceH_eq]
  refine stageC t ht a b r r1 r2 k cls s1 s2 hcls ?_
  refine ⟨?_⟩
  rintro ⟨k, prs⟩ ⟨p1, p2, p3⟩
  dsimp only at p1 p2 p3
  rw [forceH_eq]
  refine stageD t ht a b r r1 r2 k cls prs s2 hcls p1 ?_
  refine ⟨?_⟩
  rintro ⟨k, cts⟩ ⟨q1, q2, q3⟩
  dsimp only at q1 q2 q3
  dsimp only [zeroM, mb, nilA]
  repeat' (first | refine o1 ?_ | refine o2 ?_ | refine k1 ?_ | refine k2 ?_ | refine k7 ?_ | fail)
  exact ret_obj [0] [dice t k] rfl rfl ⟨rfl, trivial⟩ (r' := ag (Model.cells ⟨cls, prs, cts, r⟩)) rfl ⟨⟨cls, prs, cts, r⟩, k, q1, made_of s2 hcls p2 p3 q2 q3 r1 r2, ⟨p3, q2⟩, rfl, rfl⟩
theorem c_dmodel (t : List Int) (k : Nat) (ht : t.length ≤ 400) (hk : k ≤ t.length) (a b : Int) (ha : 0 ≤ a ∧ a ≤ 5) (hb : 1 ≤ b ∧ b ≤ 4) :
    ACall Tryz.prog 32 [.ptr 0 2 0 0, vint .i64 a, vint .i64 b] [dice t k] (fun r H' => ∃ (m : Model) (k' : Nat), k' ≤ t.length ∧ Made m ∧ r = ag m.cells ∧ H' = [dice t k']) :=
  (c_dmodelX t k ht hk a b ha hb).mono fun r H' ⟨m, k', h1, h2, _, h3⟩ => ⟨m, k', h1, h2, h3⟩
end Go.Proofs.YtihpjcmloecaaaaGreat.Cw
/-
  Symmetry: even models.
-/
namespace Go.Proofs.YtihpjcmloecaaaaGreat.Cw
open Go Go.Cw Go.Proofs
set_option linter.unusedVariables false
set_option maxRecDepth 100000
set_option maxHeartbeats 8000000
structure EvL (l : List Opt) : Prop where
  le : l.length ≤ 7
  one : 1 ≤ l.length
  day : ∀ o ∈ l, o.place.time.day = 0 ∨ o.place.time.day = 1
  ch : ∀ o ∈ l, OptQ 2 o
def evB (c p n : AV) : Option AObj := some ⟨29, 4, false, .box [c, p, n, vint .i64 2]⟩
def ob6 (t r : Int) (c : AV) : Option AObj := some ⟨62, 6, false, .box [vint .i64 1, vint .i64 t, vint .i64 0, vint .i64 1, vint .i64 r, c]⟩
theorem ch_one {p : Placed} {n : Int} (h : priceP n) : OptQ 2 ⟨p, [⟨0, n⟩]⟩ := ⟨(ChQ.app (r := 2) (u := 0) ChQ.nil (by decide) h).at_, by show 1 ≤ 4; decide⟩
theorem ch_nil {p : Placed} : OptQ 2 ⟨p, []⟩ := ⟨fun i hi => absurd hi (Nat.not_lt_zero _), by show 0 ≤ 4; decide⟩
structure EvM (m : Model) : Prop where
  ok : modelE m = 0
  laid : Laid m
  cls : ∀ l ∈ m.classes, EvL l
  few : m.classes.length ≤ 5
  prs : m.pairs.length ≤ 200
  cts : m.counts.length ≤ 6
  tabs : ∀ p ∈ m.pairs, p.table.length ≤ 100
theorem even_of {C : List (List Opt)} {P : List Pair} {CS : List Count} (h1 : C.length ≤ 5) (h2 : ∀ l ∈ C, EvL l) (h3 : PrQ C 2 P 1 C.length 0) (h5 : CS.length ≤ 6) (h6 : ∀ c ∈ CS, CtQ C 2 c) : EvM ⟨C, P, CS, 2⟩ := by
  have hl := h3.len
  have hz : sizedP ⟨C, P, CS, 2⟩ := ⟨by dsimp only; omega, fun l hl => by have := (h2 l hl).le; omega, by dsimp only; omega, by dsimp only; omega, by dsimp only; omega, by dsimp only; omega⟩
  refine ⟨mE0 hz ⟨fun l hl o ho => ((h2 l hl).ch o ho).1, h3.at_, fun c hc => (h6 c hc).1⟩, ⟨by dsimp only; omega, by dsimp only; omega, fun l hl o ho => by have := ((h2 l hl).ch o ho).2; omega, fun c hc => by have := (h6 c hc).2; omega⟩, h2, h1, by dsimp only; omega, h5, fun p hp => ?_⟩
  obtain ⟨i, hi⟩ := List.getElem?_of_mem hp
  have hlt : i < P.length := (List.getElem?_eq_some_iff.1 hi).1
  obtain ⟨⟨_, _, _, ⟨a, b, ha, hb, hl⟩, _⟩, _⟩ := h3.at_ i hlt p hi
  have g1 := (h2 a (List.mem_of_getElem? ha)).le
  have g2 := (h2 b (List.mem_of_getElem? hb)).le
  rw [hl]
  exact Nat.le_trans (Nat.mul_le_mul g1 g2) (by omega)
theorem c_even (t : List Int) (k : Nat) (ht : t.length ≤ 400) (hk : k ≤ t.length) (a R : Nat) (ha : a ≤ 5) (hR : R ≤ 3) (hR1 : 1 ≤ R) :
    ACall Tryz.prog 25 [.ptr 0 2 0 0, vint .i64 a, vint .i64 R] [dice t k]
      (fun r H' => ∃ (m : Model) (k' : Nat), k' ≤ t.length ∧ EvM m ∧ r = ag m.cells ∧ H' = [dice t k']) := by
  refine acall_of tok mixed 105 rfl (fn := Tryz.f25) (c := Tryz.f25.body.getD .skip) (by kernel_rfl) (by kernel_rfl) (by kernel_rfl) rfl 1 rfl ?_
  repeat' (first | refine o1 ?_ | refine o2 ?_ | refine k1 ?_ | refine k2 ?_ | refine k4 ?_ | refine And.intro ?_ ?_ | exact (by kernel_rfl : drawOk _ _ = true) | refine eqv_wrap (by omega) (by omega) ?_ | (change vcFun _ _ _ _ _; refine call_next 0 rfl (by assumption) (by assumption) (by omega) (by omega) ?_; intro v kq hv1 hv2 hkq) | fail)
  dsimp only [nilA]
  refine loop_for (fun z : Nat × Nat × List (List Opt) => [(0, .ptr 0 2 0 0), (2, vint .i64 R), (6, .ptr 1 4 0 0), (7, .ptr 2 4 0 0), (8, vint .i64 z.1)])
    (fun z => [dice t z.2.1, zeroM, evB (slP 3 1 (z.2.2.map optsRow)) nilA nilA, obP 51 1 (z.2.2.map optsRow)])
    (fun z => z.1 + z.2.2.length ≤ 5 ∧ z.2.1 ≤ t.length ∧ ∀ l ∈ z.2.2, EvL l) (fun z => z.1) (v.toNat, kq, []) ⟨by simp; omega, hkq, fun n h => absurd h List.not_mem_nil⟩ ?_ ?_
  · exact back [0, 1, 2, 3] rfl rfl (by repeat' (first | exact trivial | exact rfl | refine kept_bx ren_bx0 rfl ?_ | refine And.intro ?_ ?_)) ⟨rfl, rfl, rfl, rfl, slot_eq rfl (congrArg (vint .i64) (by show _ = ((v.toNat : Nat) : Int); omega)), trivial⟩
  rintro ⟨n, k, C⟩ ⟨hn, hk, hC⟩
  dsimp only at hn hk hC ⊢
  dsimp only [evB, zeroM]
  rcases Nat.eq_zero_or_pos n with rfl | hn1
  · refine forceH_in ?_
    refine ghost_seq (Γ' := [(0, .ptr 0 2 0 0), (2, vint .i64 R), (6, .ptr 1 4 0 0), (7, .ptr 2 4 0 0), (8, vint .i64 (0 : Nat))]) (H' := [dice t k, zeroM, evB (.pv (.sl 1 (C.map optsRow))) nilA nilA]) (Ghost.shut_sl (i := 2) (c := 0) (id := 3) rfl rfl rfl (by decide) fun H' hl h2 hH => back [0, 1, 2] rfl rfl ⟨hH 0 (by decide) (by decide), hH 1 (by decide) (by decide), h2, trivial⟩ (by repeat' (first | exact trivial | exact rfl | refine And.intro ?_ ?_))) ?_
    dsimp only [evB, zeroM]
    repeat' (first | refine o1 ?_ | refine o2 ?_ | refine k1 ?_ | refine k2 ?_ | refine k3 ?_ | refine k4 ?_ | refine k8 ?_ | refine And.intro ?_ ?_ | (intro h; first | exact Bool.noConfusion h | exact nz _ h | exact nl h | (simp at h; done) | (simp at h; first | (exfalso; omega) | skip) | skip) | fail)
    refine loop_for (fun z : Nat × Nat × List Pair => [(0, .ptr 0 2 0 0), (2, vint .i64 R), (6, .ptr 1 4 0 0), (7, .ptr 2 4 0 0), (14, vint .i64 z.1)])
      (fun z => [dice t z.2.1, zeroM, evB (.pv (.sl 1 (C.map optsRow))) (slP 3 4 (z.2.2.map Pair.row)) nilA, obP 72 4 (z.2.2.map Pair.row)])
      (fun z => z.1 ≤ C.length ∧ z.2.1 ≤ t.length ∧ PrQ C 2 z.2.2 1 z.1 0) (fun z => C.length - z.1) (0, k, []) ⟨Nat.zero_le _, hk, ⟨fun i h => absurd h (Nat.not_lt_zero _), fun c h => absurd h List.not_mem_nil, by show 0 ≤ _; exact Nat.zero_le _⟩⟩ ?_ ?_
    · exact back [0, 1, 2, 3] rfl rfl (by repeat' (first | exact trivial | exact rfl | refine kept_bx ren_bx1 rfl ?_ | refine And.intro ?_ ?_)) (by repeat' (first | exact trivial | exact rfl | refine And.intro ?_ ?_))
    rintro ⟨i, k, P⟩ ⟨hi, hk, hP⟩
    dsimp only at hi hk hP ⊢
    dsimp only [evB, zeroM]
    rcases Nat.lt_or_ge i C.length with hil | hig
    · repeat' (first | (refine fh_ob ?_) | refine o1 ?_ | refine o2 ?_ | refine k1 ?_ | refine k2 ?_ | refine k3 ?_ | refine k4 ?_ | refine k6 ?_ | refine And.intro ?_ ?_ | (intro h; first | exact Bool.noConfusion h | exact nz _ h | exact nl h | (simp at h; done) | (simp at h; first | (exfalso; omega) | skip) | skip) | refine eqv_len_map ?_ | refine eqv_wrap (by omega) (by omega) ?_ | fail)
      refine loop_for (fun z : Nat × Nat × List Pair => [(0, .ptr 0 2 0 0), (2, vint .i64 R), (6, .ptr 1 4 0 0), (7, .ptr 2 4 0 0), (14, vint .i64 i), (15, vint .i64 z.1)])
        (fun z => [dice t z.2.1, zeroM, evB (.pv (.sl 1 (C.map optsRow))) (slP 3 4 (z.2.2.map Pair.row)) nilA, obP 72 4 (z.2.2.map Pair.row)])
        (fun z => i < z.1 ∧ z.1 ≤ C.length ∧ z.2.1 ≤ t.length ∧ PrQ C 2 z.2.2 1 i z.1) (fun z => C.length - z.1) (i + 1, k, P) ⟨Nat.lt_succ_self _, hil, hk, hP.toK⟩ ?_ ?_
      · refine back [0, 1, 2, 3] rfl rfl ?_ ?_
        · repeat' (first | exact trivial | exact rfl | refine kept_ob rfl ?_ | refine kept_bx ren_bx1 rfl ?_ | refine And.intro ?_ ?_)
        · repeat' (first | exact trivial | exact rfl | refine And.intro ?_ ?_)
      rintro ⟨j, k, P⟩ ⟨hij, hj, hk, hj3⟩
      dsimp only at hij hj hk hj3 ⊢
      dsimp only [evB, zeroM]
      rcases Nat.lt_or_ge j C.length with hjl2 | hjg
      · rcases P with _ | ⟨p0, P⟩
        · skip
          have hjl := hj3.len
          skip
          obtain ⟨x, hx⟩ := getE hil
          obtain ⟨y, hy⟩ := getE hjl2
          have hX := hC x (List.mem_of_getElem? hx)
          have hY := hC y (List.mem_of_getElem? hy)
          have hb1 : ((List.map Pair.row (([] : List Pair))).length + 1) * 48 ≤ 140737488355328 := by rw [List.length_map]; omega
          have hb2 : (List.map Pair.row (([] : List Pair))).length + 1 ≤ 9223372036854775807 := by rw [List.length_map]; omega
          obtain ⟨TT, k', p1, p2, p3, hev⟩ := c_evenPairN t k ht hk C i j x y hx hy hX.le hY.le hX.day hY.day
          repeat' (first | (refine fh_ob ?_) | ((change vcFunD _ _ _ _ _; refine callD_obj [0] [dice t k] [.ptr 0 2 0 0, .agg [.pv (.sl 1 (C.map optsRow)), nilA, nilA, vint .i64 2], vint .i64 i, vint .i64 j] rfl ⟨rfl, trivial⟩ rfl hev rfl ?_)) | ((refine o_appD (rows := List.map Pair.row (([] : List Pair))) rfl rfl rfl rfl rfl rfl rfl rfl rfl rfl rfl hb1 hb2 ?_)) | refine o1 ?_ | refine o2 ?_ | refine k1 ?_ | refine k2 ?_ | refine k3 ?_ | refine k4 ?_ | refine k6 ?_ | refine And.intro ?_ ?_ | refine o3 ?_ | refine o4 ?_ | (intro h; first | exact Bool.noConfusion h | exact nz _ h | exact nl h | (simp at h; done) | (simp at h; first | (exfalso; omega) | skip) | skip) | exact (by kernel_rfl : drawOk _ _ = true) | refine eqv_len_map ?_ | refine eqv_wrap (by omega) (by omega) ?_ | fail)
          all_goals
            refine ⟨(j + 1, k', ([] : List Pair) ++ [⟨i, j, 1, TT⟩]), ⟨by dsimp only; omega, by dsimp only; omega, p1, hj3.app (pair_made hx hy hij (by decide) p2 p3)⟩, by dsimp only; omega, ?_⟩
            dsimp only
            rw [map_snoc, sl_app, ob_app]
            refine back [0, 1, 2, 5] rfl rfl ?_ ?_
            · repeat' (first | exact trivial | exact rfl | refine And.intro ?_ ?_)
            · repeat' (first | exact trivial | exact rfl | refine And.intro ?_ ?_)
        · skip
          have hjl := hj3.len
          skip
          obtain ⟨x, hx⟩ := getE hil
          obtain ⟨y, hy⟩ := getE hjl2
          have hX := hC x (List.mem_of_getElem? hx)
          have hY := hC y (List.mem_of_getElem? hy)
          have hb1 : ((List.map Pair.row (p0 :: P)).length + 1) * 48 ≤ 140737488355328 := by rw [List.length_map]; omega
          have hb2 : (List.map Pair.row (p0 :: P)).length + 1 ≤ 9223372036854775807 := by rw [List.length_map]; omega
          obtain ⟨TT, k', p1, p2, p3, hev⟩ := c_evenPairC t k ht hk C ((List.map Pair.row P).length + 1) (List.map Pair.row (p0 :: P)) i j x y hx hy hX.le hY.le hX.day hY.day
          repeat' (first | (refine fh_ob ?_) | ((change vcFunD _ _ _ _ _; refine callD_obj [0, 3] [dice t k, some ⟨72, 4, false, .p (List.map Pair.row (p0 :: P))⟩] [.ptr 0 2 0 0, .agg [.pv (.sl 1 (C.map optsRow)), .ms 1 4 0 ((List.map Pair.row P).length + 1), nilA, vint .i64 2], vint .i64 i, vint .i64 j] rfl ⟨rfl, rfl, trivial⟩ rfl hev rfl ?_)) | ((refine o_appD (rows := List.map Pair.row (p0 :: P)) rfl rfl rfl rfl rfl rfl rfl rfl rfl rfl rfl hb1 hb2 ?_)) | refine o1 ?_ | refine o2 ?_ | refine k1 ?_ | refine k2 ?_ | refine k3 ?_ | refine k4 ?_ | refine k6 ?_ | refine And.intro ?_ ?_ | refine o3 ?_ | refine o4 ?_ | (intro h; first | exact Bool.noConfusion h | exact nz _ h | exact nl h | (simp at h; done) | (simp at h; first | (exfalso; omega) | skip) | skip) | exact (by kernel_rfl : drawOk _ _ = true) | refine eqv_len_map ?_ | refine eqv_wrap (by omega) (by omega) ?_ | fail)
          all_goals
            refine ⟨(j + 1, k', (p0 :: P) ++ [⟨i, j, 1, TT⟩]), ⟨by dsimp only; omega, by dsimp only; omega, p1, hj3.app (pair_made hx hy hij (by decide) p2 p3)⟩, by dsimp only; omega, ?_⟩
            dsimp only
            rw [map_snoc, sl_app, ob_app]
            refine back [0, 1, 2, 5] rfl rfl ?_ ?_
            · repeat' (first | exact trivial | exact rfl | refine And.intro ?_ ?_)
            · repeat' (first | exact trivial | exact rfl | refine And.intro ?_ ?_)
      · obtain rfl : j = C.length := by omega
        repeat' (first | (refine fh_ob ?_) | refine o1 ?_ | refine o2 ?_ | refine k1 ?_ | refine k2 ?_ | refine k3 ?_ | refine k8 ?_ | refine And.intro ?_ ?_ | (intro h; first | exact Bool.noConfusion h | exact nz _ h | exact nl h | (simp at h; done) | (simp at h; first | (exfalso; omega) | skip) | skip) | refine eqv_len_map ?_ | refine eqv_wrap (by omega) (by omega) ?_ | fail)
        refine ⟨(i + 1, k, P), ⟨by dsimp only; omega, hk, hj3.toI (by omega)⟩, by dsimp only; omega, ?_⟩
        dsimp only
        refine back [0, 1, 2, 3] rfl rfl ?_ ?_
        · repeat' (first | exact trivial | exact rfl | refine kept_ob rfl ?_ | refine kept_bx ren_bx1 rfl ?_ | refine And.intro ?_ ?_)
        · repeat' (first | exact trivial | exact rfl | refine And.intro ?_ ?_)
    · obtain rfl : i = C.length := by omega
      refine forceH_in ?_
      refine ghost_seq (Γ' := [(0, .ptr 0 2 0 0), (2, vint .i64 R), (6, .ptr 1 4 0 0), (7, .ptr 2 4 0 0), (14, vint .i64 C.length)]) (H' := [dice t k, zeroM, evB (.pv (.sl 1 (C.map optsRow))) (.pv (.sl 4 (P.map Pair.row))) nilA]) (Ghost.shut_sl (i := 2) (c := 1) (id := 3) rfl rfl rfl (by decide) fun H' hl h2 hH => back [0, 1, 2] rfl rfl ⟨hH 0 (by decide) (by decide), hH 1 (by decide) (by decide), h2, trivial⟩ (by repeat' (first | exact trivial | exact rfl | refine And.intro ?_ ?_))) ?_
      refine ghost_seq (Γ' := [(0, .ptr 0 2 0 0), (2, vint .i64 R), (6, .ptr 1 4 0 0), (7, .ptr 2 4 0 0), (14, vint .i64 C.length)]) (H' := [dice t k, zeroM, evB (.pv (.sl 1 (C.map optsRow))) (.pv (.sl 4 (P.map Pair.row))) (.pv (.sl 4 []))]) (Ghost.trans (Ghost.shut (i := 2) (c := 2) (x := .pv (.val (.slice none 0 0))) rfl rfl rfl (by repeat' (first | trivial)) (show ¬ (2 ∈ ([] : List Nat)) by decide) (ALe.pv (PLe.nil (z := 4)))) (back [0, 1, 2] rfl rfl (by repeat' (first | exact trivial | exact rfl | refine And.intro ?_ ?_)) (by repeat' (first | exact trivial | exact rfl | refine And.intro ?_ ?_)))) ?_
      dsimp only [evB, zeroM]
      repeat' (first | ((change vcFun _ _ _ _ _; refine call_one (i := 0) rfl (fun _ _ => rfl) [.ptr 0 2 0 0, .agg [.pv (.sl 1 (C.map optsRow)), .pv (.sl 4 (P.map Pair.row)), .pv (.sl 4 []), vint .i64 2], vint .i64 R] rfl (c_evenCounts t kq ht hkq C (P.map Pair.row) R hR (by omega) fun l hl => (hC l hl).le) ?_; rintro r H' ⟨CS, kz, c1, c2, c3, rfl, rfl⟩; refine ⟨_, rfl, fun _ _ => rfl, fun _ _ => rfl, ?_⟩)) | refine o1 ?_ | refine o2 ?_ | refine k1 ?_ | refine k2 ?_ | refine k3 ?_ | refine k6 ?_ | refine k7 ?_ | refine k8 ?_ | refine And.intro ?_ ?_ | (intro h; first | exact Bool.noConfusion h | exact nz _ h | exact nl h | (simp at h; done) | (simp at h; first | (exfalso; omega) | skip) | skip) | refine eqv_len_map ?_ | (change vcFun _ _ _ _ _; refine call_one2 0 rfl (by assumption) (by assumption) (by omega) (by omega) ?_; intro bq kq hkq) | fail)
      all_goals try skip
      · exact ret_obj [0] [dice t kz] rfl rfl ⟨rfl, trivial⟩ (r' := ag (Model.cells ⟨C, P, CS, 2⟩)) rfl ⟨⟨C, P, CS, 2⟩, kz, c1, even_of (by omega) hC hP c2 c3, rfl, rfl⟩
      · exact ret_obj [0] [dice t kq] rfl rfl ⟨rfl, trivial⟩ (r' := ag (Model.cells ⟨C, P, [], 2⟩)) rfl ⟨⟨C, P, [], 2⟩, kq, hkq, even_of (by omega) hC hP (by decide) (fun c h => absurd h List.not_mem_nil), rfl, rfl⟩
  repeat' (first | (refine fh_ob ?_) | refine o1 ?_ | refine o2 ?_ | refine k1 ?_ | refine k2 ?_ | refine k3 ?_ | refine k4 ?_ | refine k6 ?_ | refine And.intro ?_ ?_ | (intro h; first | exact Bool.noConfusion h | exact nz _ h | exact nl h | (simp at h; done) | (simp at h; first | (exfalso; omega) | skip) | skip) | fail)
  refine loop_for (fun z : Nat × Nat × List Opt => [(0, .ptr 0 2 0 0), (2, vint .i64 R), (6, .ptr 1 4 0 0), (7, .ptr 2 4 0 0), (8, vint .i64 n), (9, slP 4 6 (z.2.2.map Opt.row)), (10, vint .i64 z.1)])
    (fun z => [dice t z.2.1, zeroM, evB (slP 3 1 (C.map optsRow)) nilA nilA, obP 51 1 (C.map optsRow), obP 62 6 (z.2.2.map Opt.row)])
    (fun z => z.1 ≤ 2 ∧ z.2.1 ≤ t.length ∧ z.2.2.length ≤ z.1 * 3 ∧ (1 ≤ z.1 → 1 ≤ z.2.2.length) ∧ (∀ o ∈ z.2.2, o.place.time.day = 0 ∨ o.place.time.day = 1) ∧ ∀ o ∈ z.2.2, OptQ 2 o) (fun z => 2 - z.1) (0, k, []) ⟨Nat.zero_le _, hk, Nat.le_refl _, fun h => by dsimp only at h; omega, fun o h => absurd h List.not_mem_nil, fun o h => absurd h List.not_mem_nil⟩ ?_ ?_
  · exact back [0, 1, 2, 3, 4] rfl rfl (by repeat' (first | exact trivial | exact rfl | refine kept_ob rfl ?_ | refine kept_bx ren_bx0 rfl ?_ | refine And.intro ?_ ?_)) (by repeat' (first | exact trivial | exact rfl | refine And.intro ?_ ?_))
  rintro ⟨tt, k, l⟩ ⟨htt, hk, hll, hl1, hld, hlc⟩
  dsimp only at htt hk hll hl1 hld hlc ⊢
  dsimp only [evB, zeroM]
  rcases Nat.lt_or_ge tt 2 with htl | htg
  · repeat' (first | ((change vcFun _ _ _ _ _; refine call_mcost 0 rfl (by assumption) (by assumption) ?_; intro cn kc hcn hkc)) | (refine fh_ob ?_) | refine o1 ?_ | refine o2 ?_ | refine k1 ?_ | refine k2 ?_ | refine k3 ?_ | refine k4 ?_ | refine k6 ?_ | refine k8 ?_ | refine And.intro ?_ ?_ | (intro h; first | exact Bool.noConfusion h | exact nz _ h | exact nl h | (simp at h; done) | (simp at h; first | (exfalso; omega) | skip) | skip) | refine eqv_wrap (by omega) (by omega) ?_ | (change vcFun _ _ _ _ _; refine call_one2 0 rfl (by assumption) (by assumption) (by omega) (by omega) ?_; intro bq kq hkq) | fail)
    case' refine_1 => skip
    all_goals first
      | (exfalso; omega)
      | (refine ⟨(tt + 1, kq, l), ⟨by dsimp only; omega, hkq, by dsimp only; omega, fun _ => by dsimp only; exact hl1 (by omega), hld, hlc⟩, by dsimp only; omega, ?_⟩
         refine back [0, 1, 2, 3, 4] rfl rfl ?_ ?_
         · repeat' (first | exact trivial | exact rfl | refine kept_ob rfl ?_ | refine kept_bx ren_bx0 rfl ?_ | refine And.intro ?_ ?_)
         · repeat' (first | exact trivial | exact rfl | exact ren_get rfl | refine And.intro ?_ ?_))
      | skip
    all_goals
      refine loop_for (fun z : Nat × List Opt => [(0, .ptr 0 2 0 0), (2, vint .i64 R), (6, .ptr 1 4 0 0), (7, .ptr 2 4 0 0), (8, vint .i64 n), (9, slP 4 6 (z.2.map Opt.row)), (10, vint .i64 tt), (11, vint .i64 cn), (12, vint .i64 z.1)])
        (fun z => [dice t kc, zeroM, evB (slP 3 1 (C.map optsRow)) nilA nilA, obP 51 1 (C.map optsRow), obP 62 6 (z.2.map Opt.row)])
        (fun z => z.1 ≤ R ∧ z.2.length ≤ tt * 3 + z.1 ∧ (1 ≤ tt + z.1 → 1 ≤ z.2.length) ∧ (∀ o ∈ z.2, o.place.time.day = 0 ∨ o.place.time.day = 1) ∧ ∀ o ∈ z.2, OptQ 2 o) (fun z => R - z.1) (0, l) ⟨Nat.zero_le _, hll, hl1, hld, hlc⟩ ?_ ?_
      · refine back [0, 1, 2, 3, 4] rfl rfl ?_ ?_
        · repeat' (first | exact trivial | exact rfl | refine kept_ob rfl ?_ | refine kept_bx ren_bx0 rfl ?_ | refine And.intro ?_ ?_)
        · repeat' (first | exact trivial | exact rfl | exact ren_get rfl | refine And.intro ?_ ?_)
      rintro ⟨r, l⟩ ⟨hr, hll, hl1, hld, hlc⟩
      dsimp only at hr hll hl1 hld hlc ⊢
      dsimp only [evB, zeroM]
      rcases Nat.lt_or_ge r R with hrl | hrg
      · have hb1 : ((l.map Opt.row).length + 1) * 64 ≤ 140737488355328 := by rw [List.length_map]; omega
        have hb2 : (l.map Opt.row).length + 1 ≤ 9223372036854775807 := by rw [List.length_map]; omega
        repeat' (first | (refine fh_ob ?_) | (refine join_in (a := .seq (.region 15 _ _) _) (fun _ => []) (fun x : List Charge => [dice t kc, zeroM, evB (slP 3 1 (C.map optsRow)) nilA nilA, obP 51 1 (C.map optsRow), obP 62 6 (l.map Opt.row), ob6 tt r (.pv (.sl 2 (x.map Charge.row)))]) (fun x => OptQ 2 ⟨⟨⟨1, tt, 0, 1⟩, r⟩, x⟩) ?_) | refine o1 ?_ | refine o2 ?_ | refine k1 ?_ | refine k2 ?_ | refine k3 ?_ | refine k4 ?_ | refine k6 ?_ | refine And.intro ?_ ?_ | (intro h; first | exact Bool.noConfusion h | exact nz _ h | exact nl h | (simp at h; done) | (simp at h; first | (exfalso; omega) | skip) | skip) | exact (by kernel_rfl : drawOk _ _ = true) | fail)
        · refine ⟨[⟨0, cn⟩], ch_one (hcn.elim (fun h => by omega) id), Ghost.trans (Ghost.shut (i := 5) (c := 5) (x := .ms 6 2 0 1) rfl rfl rfl (by repeat' (first | (show 0 + _ ≤ List.length _; simp))) (show ¬ (5 ∈ ([6] : List Nat)) by decide) (ALe.pv (whole_le (f := Charge.row) (l := [⟨0, cn⟩]) (by simp)))) (back [0, 1, 2, 3, 4, 5] rfl rfl ?_ ?_)⟩
          · repeat' (first | exact trivial | exact rfl | refine kept_ob rfl ?_ | refine kept_bx ren_bx0 rfl ?_ | refine And.intro ?_ ?_)
          · repeat' (first | exact trivial | exact rfl | exact ren_get rfl | refine And.intro ?_ ?_)
        · refine ⟨[], ch_nil, Ghost.trans (Ghost.shut (i := 5) (c := 5) (x := .pv (.val (.slice none 0 0))) rfl rfl rfl (by repeat' (first | trivial)) (show ¬ (5 ∈ ([] : List Nat)) by decide) (ALe.pv (PLe.nil (z := 2)))) (back [0, 1, 2, 3, 4, 5] rfl rfl ?_ ?_)⟩
          · repeat' (first | exact trivial | exact rfl | refine kept_ob rfl ?_ | refine kept_bx ren_bx0 rfl ?_ | refine And.intro ?_ ?_)
          · repeat' (first | exact trivial | exact rfl | exact ren_get rfl | refine And.intro ?_ ?_)
        refine ⟨?_⟩
        intro x hx
        dsimp only [zeroM, evB, ob6]
        repeat' (first | (refine fv_sl ?_) | (refine fh_ob ?_) | ((refine o_app rfl rfl rfl rfl rfl rfl rfl rfl rfl rfl rfl hb1 hb2 ?_)) | refine o1 ?_ | refine o2 ?_ | refine k2 ?_ | refine eqv_wrap (by omega) (by omega) ?_ | fail)
        refine ⟨(r + 1, l ++ [⟨⟨⟨1, tt, 0, 1⟩, r⟩, x⟩]), ⟨by dsimp only; omega, by dsimp only; rw [List.length_append]; simp only [List.length_cons, List.length_nil]; omega, fun _ => by dsimp only; rw [List.length_append]; simp only [List.length_cons, List.length_nil]; omega, all_app (p := fun o : Opt => o.place.time.day = 0 ∨ o.place.time.day = 1) hld (by dsimp only; omega), all_app hlc hx⟩, by dsimp only; omega, ?_⟩
        dsimp only
        rw [map_snoc, sl_app, ob_app]
        refine back [0, 1, 2, 3, 7] rfl rfl ?_ ?_
        · repeat' (first | exact trivial | exact rfl | refine kept_ob rfl ?_ | refine kept_bx ren_bx0 rfl ?_ | refine And.intro ?_ ?_)
        · repeat' (first | exact trivial | exact rfl | refine And.intro ?_ ?_)
      · obtain rfl : r = R := by omega
        repeat' (first | (refine fh_ob ?_) | refine o1 ?_ | refine o2 ?_ | refine k1 ?_ | refine k2 ?_ | refine k3 ?_ | refine k8 ?_ | refine And.intro ?_ ?_ | (intro h; first | exact Bool.noConfusion h | exact nz _ h | exact nl h | (simp at h; done) | (simp at h; first | (exfalso; omega) | skip) | skip) | refine eqv_wrap (by omega) (by omega) ?_ | fail)
        refine ⟨(tt + 1, kc, l), ⟨by dsimp only; omega, hkc, by dsimp only; omega, fun _ => by dsimp only; exact hl1 (by omega), hld, hlc⟩, by dsimp only; omega, ?_⟩
        dsimp only
        refine back [0, 1, 2, 3, 4] rfl rfl ?_ ?_
        · repeat' (first | exact trivial | exact rfl | refine kept_ob rfl ?_ | refine kept_bx ren_bx0 rfl ?_ | refine And.intro ?_ ?_)
        · repeat' (first | exact trivial | exact rfl | exact ren_get rfl | refine And.intro ?_ ?_)
  obtain rfl : tt = 2 := by omega
  have hb1 : ((l.map Opt.row).length + 1) * 64 ≤ 140737488355328 := by rw [List.length_map]; omega
  have hb2 : (l.map Opt.row).length + 1 ≤ 9223372036854775807 := by rw [List.length_map]; omega
  have hb3 : ((C.map optsRow).length + 1) * 24 ≤ 140737488355328 := by rw [List.length_map]; omega
  have hb4 : (C.map optsRow).length + 1 ≤ 9223372036854775807 := by rw [List.length_map]; omega
  repeat' (first | (refine fv_sl ?_) | (refine fh_ob ?_) | (refine join_in (a := .seq (.region 18 _ _) _) (fun x : Nat × List Opt => [(9, .pv (.sl 6 (x.2.map Opt.row)))]) (fun x => [dice t x.1, zeroM, evB (slP 3 1 (C.map optsRow)) nilA nilA, obP 51 1 (C.map optsRow)]) (fun x => x.1 ≤ t.length ∧ EvL x.2) ?_) | ((refine o_app rfl rfl rfl rfl rfl rfl rfl rfl rfl rfl rfl hb1 hb2 ?_)) | refine o1 ?_ | refine o2 ?_ | refine k1 ?_ | refine k2 ?_ | refine k3 ?_ | refine k6 ?_ | refine k8 ?_ | refine And.intro ?_ ?_ | (intro h; first | exact Bool.noConfusion h | exact nz _ h | exact nl h | (simp at h; done) | (simp at h; first | (exfalso; omega) | skip) | skip) | (change vcFun _ _ _ _ _; refine call_one2 0 rfl (by assumption) (by assumption) (by omega) (by omega) ?_; intro bq kq hkq) | fail)
  · refine ⟨(kq, l ++ [⟨⟨⟨2, 0, 0, 1⟩, -1⟩, []⟩]), ⟨hkq, ⟨by dsimp only; rw [List.length_append]; simp only [List.length_cons, List.length_nil]; omega, by dsimp only; rw [List.length_append]; simp only [List.length_cons, List.length_nil]; omega, all_app (p := fun o : Opt => o.place.time.day = 0 ∨ o.place.time.day = 1) hld (.inl rfl), all_app hlc ch_nil⟩⟩, Ghost.sl (s := 9) (id := 6) (rows := l.map Opt.row ++ [[ei 2, ei 0, ei 0, ei 1, ei (-1), .val (.slice none 0 0)]]) (by rw [sl_app]; rfl) (by rw [ob_app]; rfl) fun H' hl hH => Ghost.trans (Ghost.weak (s := 9) (y := .pv (.sl 6 (l.map Opt.row ++ [Opt.row ⟨⟨⟨2, 0, 0, 1⟩, -1⟩, []⟩]))) rfl (ALe.pv (PLe.sl (PLeLL.app PLeLL.refl ⟨⟨PLe.refl, PLe.refl, PLe.refl, PLe.refl, PLe.refl, PLe.nil, trivial⟩, trivial⟩)))) ?_⟩
    dsimp only
    rw [map_snoc]
    refine back [0, 1, 2, 3] rfl rfl ⟨hH 0 (by decide), hH 1 (by decide), kept_bx ren_bx0 (hH 2 (by decide)) (kept_ob (hH 3 (by decide)) trivial)⟩ ?_
    repeat' (first | exact trivial | exact rfl | refine And.intro ?_ ?_)
  · refine ⟨(kq, l), ⟨hkq, ⟨by dsimp only; omega, by dsimp only; exact hl1 (by omega), hld, hlc⟩⟩, Ghost.sl (s := 9) (id := 4) (rows := l.map Opt.row) rfl rfl fun H' hl hH => ?_⟩
    refine back [0, 1, 2, 3] rfl rfl ⟨hH 0 (by decide), hH 1 (by decide), kept_bx ren_bx0 (hH 2 (by decide)) (kept_ob (hH 3 (by decide)) trivial)⟩ ?_
    repeat' (first | exact trivial | exact rfl | refine And.intro ?_ ?_)
  refine ⟨?_⟩
  rintro ⟨k, l⟩ ⟨hk, hl⟩
  dsimp only at hk hl ⊢
  dsimp only [zeroM, evB]
  repeat' (first | (refine fv_sl ?_) | (refine fh_ob ?_) | ((refine o_app rfl rfl rfl rfl rfl rfl rfl rfl rfl rfl rfl hb3 hb4 ?_)) | refine o1 ?_ | refine o2 ?_ | refine k2 ?_ | refine eqv_wrap (by omega) (by omega) ?_ | fail)
  refine ⟨(n - 1, k, C ++ [l]), ⟨by dsimp only; rw [List.length_append]; simp only [List.length_cons, List.length_nil]; omega, hk, all_app hC hl⟩, by dsimp only; omega, ?_⟩
  dsimp only
  rw [map_snoc, sl_app, ob_app]
  refine back [0, 1, 2, 5] rfl rfl ?_ ⟨rfl, rfl, rfl, rfl, slot_eq rfl (congrArg (vint .i64) (by show _ = ((n - 1 : Nat) : Int); omega)), trivial⟩
  repeat' (first | exact trivial | exact rfl | refine And.intro ?_ ?_)
end Go.Proofs.YtihpjcmloecaaaaGreat.Cw
/-
  Made plans.
-/
namespace Go.Proofs.YtihpjcmloecaaaaGreat.Cw
open Go.Cw Go.Proofs
set_option linter.unusedVariables false
set_option maxRecDepth 100000
set_option maxHeartbeats 1600000
structure PlQ (m : Model) (full : Bool) (l : List Int) (n : Nat) : Prop where
  len : l.length = n
  at_ : ∀ i, i < n → ∀ o, l[i]? = some o → ∀ c, m.classes[i]? = some c → (full = true → 0 ≤ o) ∧ o < c.length
end Go.Proofs.YtihpjcmloecaaaaGreat.Cw
/-
  Odd models.
-/
namespace Go.Proofs.YtihpjcmloecaaaaGreat.Cw
open Go.Cw Go.Proofs
set_option linter.unusedVariables false
set_option maxRecDepth 100000
set_option maxHeartbeats 30000000
theorem app_wholem {α : Type} {f : α → List PV} {e : α} {l : List α} {K : Go.Cw.Rows → Nat → Prop} (h : K (.p (f e :: l.map f)) ((l.map f).length + 1)) : eqv (Go.Cw.Rows.p (List.map f (e :: l))) fun rr => eqv (rowsLen rr) (K rr) :=
  ⟨_, rfl, _, by simp [rowsLen], h⟩
theorem app_mfirst {c : List AV} {K : Go.Cw.Rows → Nat → Prop} (h : K (.m [c]) 1) : eqv (Go.Cw.Rows.m (List.take 1 (List.drop 0 [c]))) fun rr => eqv (rowsLen rr) (K rr) :=
  ⟨_, rfl, _, rfl, h⟩
theorem app_mlast {r1 : List PV} {xs : List (List PV)} {r : List AV} {K : Go.Cw.Rows → Nat → Prop} (h : K (.m ((r1 :: xs).map pvs ++ [r])) (xs.length + 2)) : eqv (Go.Cw.Rows.m ((List.drop 0 (r1 :: xs)).map pvs ++ List.take 1 (List.drop 0 [r]))) fun rr => eqv (rowsLen rr) (K rr) :=
  ⟨_, rfl, _, by simp [rowsLen], h⟩
theorem lit_idx {v : Int} {n : Nat} {K : Nat → Prop} (h1 : 0 ≤ v) (h2 : v < n) (h : ∀ k, k < n → K (0 + k)) : ∃ k : Nat, v = ↑k ∧ k < n ∧ eqv (0 + k) K :=
  ⟨v.toNat, by omega, by omega, _, rfl, h _ (by omega)⟩
theorem lit4_load {α : Type} {a b c d : α} {k n : Nat} {C : α → Prop} (hn : n = 4) (hk : k < n) (ha : C a) (hb : C b) (hc : C c) (hd : C d) : ∃ r, [a, b, c, d][0 + k]? = some r ∧ C r := by
  subst hn
  match k, hk with
  | 0, _ => exact ⟨a, rfl, ha⟩
  | 1, _ => exact ⟨b, rfl, hb⟩
  | 2, _ => exact ⟨c, rfl, hc⟩
  | 3, _ => exact ⟨d, rfl, hd⟩
theorem row0_load {α : Type} {r : α} {l : List α} {C : α → Prop} (h : C r) : ∃ x, (r :: l)[0]? = some x ∧ C x := ⟨_, rfl, h⟩
theorem app_lit {r : List PV} {l : List (List PV)} {K : Go.Cw.Rows → Nat → Prop} (h : K (.p (r :: l)) (l.length + 1)) : eqv (Go.Cw.Rows.p (List.drop 0 [r] ++ l)) fun rr => eqv (rowsLen rr) (K rr) := ⟨_, rfl, _, rfl, h⟩
theorem set0p {r x : List PV} {l : List (List PV)} {K : List (List PV) → Prop} (h : K (x :: l)) : eqv ((r :: l).set 0 x) K := ⟨_, rfl, h⟩
theorem set0m {r : List PV} {x : List AV} {l : List (List PV)} {K : List (List AV) → Prop} (h : K (x :: l.map pvs)) : eqv ((List.map pvs (r :: l)).set 0 x) K := ⟨_, rfl, h⟩
theorem okL1 {α : Type} {x : α} {P : α → Prop} (h : P x) : ∀ r ∈ List.take 1 (List.drop 0 [x]), P r := fun r hr => by
  have : r ∈ [x] := hr
  rw [List.mem_singleton] at this; subst this; exact h
def YY {α : Type} (_ : α) : Prop := True
def OptL (o : Opt) : Prop := o.charges.length ≤ 9223372036854775807
def ClsL (l : List Opt) : Prop := l.length ≤ 1000 ∧ ∀ o ∈ l, OptL o
def CntL (c : Count) : Prop := c.loads.length ≤ 9223372036854775807
def eI (n : Int) : List PV := [ei n]
section
variable {a b c d e : Int} {p : PV} {n : Nat}
theorem row_cls (h : SlOf 6 Opt.row OptL 1000 p) : RowOf optsRow ClsL [p] := by
  obtain ⟨l, h0, h1, h2⟩ := h
  exact ⟨l, ⟨h0, h1⟩, h2, trivial⟩
theorem row_opt (h : SlOf 2 Charge.row YY 1000 p) : RowOf Opt.row OptL [ei a, ei b, ei c, ei d, ei e, p] := by
  obtain ⟨l, h0, h1, h2⟩ := h
  exact ⟨⟨⟨⟨a, b, c, d⟩, e⟩, l⟩, by show l.length ≤ _; omega, PLe.refl, PLe.refl, PLe.refl, PLe.refl, PLe.refl, h2, trivial⟩
theorem row_charge : RowOf Charge.row YY [ei a, ei b] := ⟨⟨a, b⟩, trivial, PLeL.refl⟩
theorem row_pair (h : SlOf 1 eI YY n p) : RowOf Pair.row YY [ei a, ei b, ei c, p] := by
  obtain ⟨l, h0, h1, h2⟩ := h
  exact ⟨⟨a, b, c, l⟩, trivial, PLe.refl, PLe.refl, PLe.refl, h2, trivial⟩
theorem row_count (h : SlOf 3 Load.row YY 1000 p) : RowOf Count.row CntL [ei a, p, ei b, ei c] := by
  obtain ⟨l, h0, h1, h2⟩ := h
  exact ⟨⟨a, l, b, c⟩, by show l.length ≤ _; omega, PLe.refl, h2, PLe.refl, PLe.refl, trivial⟩
theorem row_load : RowOf Load.row YY [ei a, ei b, ei c] := ⟨⟨a, b, c⟩, trivial, PLeL.refl⟩
end
structure LaidX (y : Model) : Prop where
  laid : Laid y
  cn : y.classes.length ≤ 1000
  on : ∀ l ∈ y.classes, l.length ≤ 1000
theorem fin_model {t : List Int} {c p n : PV} {ru : Int} (k : Nat) (hk : k ≤ t.length) (h1 : SlOf 1 optsRow ClsL 1000 c) (h2 : SlOf 4 Pair.row YY 1000 p) (h3 : SlOf 4 Count.row CntL 1000 n) :
    ∃ (y : Model) (k' : Nat), k' ≤ t.length ∧ LaidX y ∧ Leq (.agg [.pv c, .pv p, .pv n, vint .i64 ru]) (ag y.cells) ∧ [dice t k] = [dice t k'] := by
  obtain ⟨l1, a1, b1, c1⟩ := h1
  obtain ⟨l2, a2, b2, c2⟩ := h2
  obtain ⟨l3, a3, b3, c3⟩ := h3
  exact ⟨⟨l1, l2, l3, ru⟩, k, hk, ⟨⟨by show l1.length ≤ _; omega, by show l2.length ≤ _; omega, fun l hl => (b1 l hl).2, b3⟩, a1, fun l hl => (b1 l hl).1⟩, ⟨ALe.agg ⟨ALe.pv c1, ALe.pv c2, ALe.pv c3, ALe.refl, trivial⟩⟩, rfl⟩
end Go.Proofs.YtihpjcmloecaaaaGreat.Cw
/-
  Odd models: no pairs, no counts.
-/
namespace Go.Proofs.YtihpjcmloecaaaaGreat.Cw
open Go.Cw Go.Proofs
set_option linter.unusedVariables false
set_option maxRecDepth 100000
set_option maxHeartbeats 30000000
theorem c_odd000 (t : List Int) (k : Nat) (ht : t.length ≤ 400) (hk : k ≤ t.length) (ru : Int) (q1 : ∀ l ∈ ([] : List (List Opt)), ClsL l) (q3 : ∀ c ∈ ([] : List Count), CntL c) (h1 : ([] : List (List Opt)).length ≤ 5) (h2 : ([] : List Pair).length ≤ 200) (h3 : ([] : List Count).length ≤ 6) (h4 : ∀ p ∈ ([] : List Pair), p.table.length ≤ 100) :
    ACall Tryz.prog 33 [.ptr 0 2 0 0, ag (Model.cells ⟨[], [], [], ru⟩)] [dice t k] (fun r H' => ∃ (y : Model) (k' : Nat), k' ≤ t.length ∧ LaidX y ∧ Leq r (ag y.cells) ∧ H' = [dice t k']) := by
  have q2 : ∀ p ∈ ([] : List Pair), YY p := fun _ _ => trivial
  dsimp only [Model.cells]
  refine acall_of tok mixed 126 rfl (fn := Tryz.f33) (c := Tryz.f33.body.getD .skip) (by kernel_rfl) (by kernel_rfl) (by kernel_rfl) rfl 1 rfl ?_
  repeat' (first | refine o1 ?_ | refine o2 ?_ | refine k1 ?_ | refine k2 ?_ | refine k3 ?_ | refine k4 ?_ | refine k6 ?_ | refine k7 ?_ | refine And.intro ?_ ?_ | refine o3 ?_ | refine o4 ?_ | (intro h; first | exact Bool.noConfusion h | exact nz _ h | exact nl h | (simp at h; done) | (simp at h; first | (exfalso; omega) | skip) | skip) | (refine (?_ : srcLen _ = rowsLen _); rfl) | exact Nat.le_of_ble_eq_true rfl | exact (by kernel_rfl : drawOk _ _ = true) | refine eqv_wrap (by omega) (by omega) ?_ | (refine (?_ : _ ≤ 9223372036854775807); simp [rowsLen] <;> omega) | refine eqv_to _ (app_first rfl) (eqv_to 1 rfl ?_) | (change vcFun _ _ _ _ _; refine call_next 0 rfl (by assumption) (by assumption) (by omega) (by omega) ?_; intro v kq hv1 hv2 hkq) | (change vcFunD _ _ _ _ _; refine callD_next 0 rfl (by assumption) (by assumption) (by omega) (by omega) ?_; intro v kq hv1 hv2 hkq) | (refine app_mfirst ?_) | (refine lit_idx (by assumption) (by assumption) (fun kx hkx => ?_)) | (refine lit4_load rfl (by assumption) ?_ ?_ ?_ ?_) | (refine ⟨(24 + v).toNat, (24 + v).toNat, by omega, by omega, Nat.le_refl _, ?_⟩) | ((refine (?_ : Int.toNat _ * _ ≤ _); omega)) | (refine (eqv_rfl ?_ : eqv (List.replicate _ _) _)) | fail)
  all_goals try (refine ret_conv [0] [dice t kq] rfl rfl ⟨rfl, trivial⟩ rfl (by repeat' (first | exact True.intro | refine And.intro ?_ ?_ | (show 0 + _ ≤ List.length _; simp) | refine okL1 ?_)) rfl (fin_model kq hkq ?_ ?_ ?_))
  all_goals repeat' (first | exact SlOf.nil | refine SlOf.sl ?_ (by simp <;> omega) | exact RowsOf.map (by assumption) | exact RowsOf.nil | refine RowsOf.cons ?_ ?_ | refine RowsOf.take ?_ | refine RowsOf.drop ?_ | refine RowsOf.rep ?_ | exact row_load | exact row_charge | refine row_count ?_ | refine row_opt ?_ | refine row_cls ?_)
theorem c_odd001 (t : List Int) (k : Nat) (ht : t.length ≤ 400) (hk : k ≤ t.length) (l0 : List Opt) (cls : List (List Opt)) (ru : Int) (q1 : ∀ l ∈ (l0 :: cls : List (List Opt)), ClsL l) (q3 : ∀ c ∈ ([] : List Count), CntL c) (h1 : (l0 :: cls : List (List Opt)).length ≤ 5) (h2 : ([] : List Pair).length ≤ 200) (h3 : ([] : List Count).length ≤ 6) (h4 : ∀ p ∈ ([] : List Pair), p.table.length ≤ 100) :
    ACall Tryz.prog 33 [.ptr 0 2 0 0, ag (Model.cells ⟨l0 :: cls, [], [], ru⟩)] [dice t k] (fun r H' => ∃ (y : Model) (k' : Nat), k' ≤ t.length ∧ LaidX y ∧ Leq r (ag y.cells) ∧ H' = [dice t k']) := by
  have q2 : ∀ p ∈ ([] : List Pair), YY p := fun _ _ => trivial
  obtain ⟨q1a, q1b⟩ := List.forall_mem_cons.1 q1
  simp only [List.length_cons] at h1
  dsimp only [Model.cells]
  refine acall_of tok mixed 126 rfl (fn := Tryz.f33) (c := Tryz.f33.body.getD .skip) (by kernel_rfl) (by kernel_rfl) (by kernel_rfl) rfl 1 rfl ?_
  repeat' (first | ((refine retL rfl rfl rfl ?_ rfl rfl rfl ?_; · repeat' (first | exact True.intro | refine And.intro ?_ ?_ | (show 0 + _ ≤ List.length _; simp) | refine okL1 ?_))) | refine o1 ?_ | refine o2 ?_ | refine k1 ?_ | refine k2 ?_ | refine k3 ?_ | refine k4 ?_ | refine k6 ?_ | refine k7 ?_ | refine And.intro ?_ ?_ | refine o3 ?_ | refine o4 ?_ | (intro h; first | exact Bool.noConfusion h | exact nz _ h | exact nl h | (simp at h; done) | (simp at h; first | (exfalso; omega) | skip) | skip) | (refine (?_ : srcLen _ = rowsLen _); rfl) | exact Nat.le_of_ble_eq_true rfl | exact (by kernel_rfl : drawOk _ _ = true) | refine eqv_wrap (by omega) (by omega) ?_ | (refine (?_ : _ ≤ 140737488355328); simp [rowsLen] <;> omega) | (refine (?_ : _ ≤ 9223372036854775807); simp [rowsLen] <;> omega) | (refine (?_ : _ = rowsLen _); simp [rowsLen] <;> omega) | refine eqv_to _ (app_first rfl) (eqv_to 1 rfl ?_) | (change vcFun _ _ _ _ _; refine call_next 0 rfl (by assumption) (by assumption) (by omega) (by omega) ?_; intro v kq hv1 hv2 hkq) | (change vcFunD _ _ _ _ _; refine callD_next 0 rfl (by assumption) (by assumption) (by omega) (by omega) ?_; intro v kq hv1 hv2 hkq) | (refine app_wholem ?_) | (refine app_mfirst ?_) | (refine app_mlast ?_) | (refine lit_idx (by assumption) (by assumption) (fun kx hkx => ?_)) | (refine lit4_load rfl (by assumption) ?_ ?_ ?_ ?_) | (refine ⟨(24 + v).toNat, (24 + v).toNat, by omega, by omega, Nat.le_refl _, ?_⟩) | ((refine (?_ : Int.toNat _ * _ ≤ _); omega)) | (refine (eqv_rfl ?_ : eqv (List.replicate _ _) _)) | fail)
  all_goals try (refine ret_conv [0] [dice t kq] rfl rfl ⟨rfl, trivial⟩ rfl (by repeat' (first | exact True.intro | refine And.intro ?_ ?_ | (show 0 + _ ≤ List.length _; simp) | refine okL1 ?_)) rfl (fin_model kq hkq ?_ ?_ ?_))
  all_goals repeat' (first | exact SlOf.nil | refine SlOf.sl ?_ (by simp <;> omega) | exact RowsOf.map (by assumption) | exact RowsOf.nil | refine RowsOf.cons ?_ ?_ | refine RowsOf.app ?_ ?_ | refine RowsOf.take ?_ | refine RowsOf.drop ?_ | refine RowsOf.rep ?_ | exact RowOf.mk (by assumption) PLeL.refl | exact row_load | exact row_charge | refine row_count ?_ | refine row_opt ?_ | refine row_cls ?_)
end Go.Proofs.YtihpjcmloecaaaaGreat.Cw
/-
  Odd models: no pairs.
-/
namespace Go.Proofs.YtihpjcmloecaaaaGreat.Cw
open Go.Cw Go.Proofs
set_option linter.unusedVariables false
set_option maxRecDepth 100000
set_option maxHeartbeats 30000000
theorem c_odd010 (t : List Int) (k : Nat) (ht : t.length ≤ 400) (hk : k ≤ t.length) (c0 : Count) (cts : List Count) (ru : Int) (q1 : ∀ l ∈ ([] : List (List Opt)), ClsL l) (q3 : ∀ c ∈ (c0 :: cts : List Count), CntL c) (h1 : ([] : List (List Opt)).length ≤ 5) (h2 : ([] : List Pair).length ≤ 200) (h3 : (c0 :: cts : List Count).length ≤ 6) (h4 : ∀ p ∈ ([] : List Pair), p.table.length ≤ 100) :
    ACall Tryz.prog 33 [.ptr 0 2 0 0, ag (Model.cells ⟨[], [], c0 :: cts, ru⟩)] [dice t k] (fun r H' => ∃ (y : Model) (k' : Nat), k' ≤ t.length ∧ LaidX y ∧ Leq r (ag y.cells) ∧ H' = [dice t k']) := by
  have q2 : ∀ p ∈ ([] : List Pair), YY p := fun _ _ => trivial
  obtain ⟨q3a, q3b⟩ := List.forall_mem_cons.1 q3
  simp only [List.length_cons] at h3
  dsimp only [Model.cells]
  refine acall_of tok mixed 126 rfl (fn := Tryz.f33) (c := Tryz.f33.body.getD .skip) (by kernel_rfl) (by kernel_rfl) (by kernel_rfl) rfl 1 rfl ?_
  repeat' (first | ((refine retL rfl rfl rfl ?_ rfl rfl rfl ?_; · repeat' (first | exact True.intro | refine And.intro ?_ ?_ | (show 0 + _ ≤ List.length _; simp) | refine okL1 ?_))) | refine o1 ?_ | refine o2 ?_ | refine k1 ?_ | refine k2 ?_ | refine k3 ?_ | refine k4 ?_ | refine k6 ?_ | refine k7 ?_ | refine And.intro ?_ ?_ | refine o3 ?_ | refine o4 ?_ | (intro h; first | exact Bool.noConfusion h | exact nz _ h | exact nl h | (simp at h; done) | (simp at h; first | (exfalso; omega) | skip) | skip) | (refine (?_ : srcLen _ = rowsLen _); rfl) | exact Nat.le_of_ble_eq_true rfl | exact (by kernel_rfl : drawOk _ _ = true) | refine eqv_wrap (by omega) (by omega) ?_ | (refine (?_ : _ ≤ 140737488355328); simp [rowsLen] <;> omega) | (refine (?_ : _ ≤ 9223372036854775807); simp [rowsLen] <;> omega) | (refine (?_ : _ = rowsLen _); simp [rowsLen] <;> omega) | (change vcFun _ _ _ _ _; refine call_next 0 rfl (by assumption) (by assumption) (by omega) (by omega) ?_; intro v kq hv1 hv2 hkq) | (change vcFunD _ _ _ _ _; refine callD_next 0 rfl (by assumption) (by assumption) (by omega) (by omega) ?_; intro v kq hv1 hv2 hkq) | (refine app_wholem ?_) | (refine app_mfirst ?_) | (refine app_mlast ?_) | (refine app_cons ?_) | (refine lit_idx (by assumption) (by assumption) (fun kx hkx => ?_)) | (refine lit4_load rfl (by assumption) ?_ ?_ ?_ ?_) | (refine ⟨(24 + v).toNat, (24 + v).toNat, by omega, by omega, Nat.le_refl _, ?_⟩) | ((refine (?_ : Int.toNat _ * _ ≤ _); omega)) | (refine (eqv_rfl ?_ : eqv (List.replicate _ _) _)) | fail)
  all_goals try (refine ret_conv [0] [dice t kq] rfl rfl ⟨rfl, trivial⟩ rfl (by repeat' (first | exact True.intro | refine And.intro ?_ ?_ | (show 0 + _ ≤ List.length _; simp) | refine okL1 ?_)) rfl (fin_model kq hkq ?_ ?_ ?_))
  all_goals repeat' (first | exact SlOf.nil | refine SlOf.sl ?_ (by simp <;> omega) | exact RowsOf.map (by assumption) | exact RowsOf.nil | refine RowsOf.cons ?_ ?_ | refine RowsOf.app ?_ ?_ | refine RowsOf.take ?_ | refine RowsOf.drop ?_ | refine RowsOf.rep ?_ | exact RowOf.mk (by assumption) PLeL.refl | exact row_load | exact row_charge | refine row_count ?_ | refine row_opt ?_ | refine row_cls ?_)
theorem c_odd011 (t : List Int) (k : Nat) (ht : t.length ≤ 400) (hk : k ≤ t.length) (c0 : Count) (cts : List Count) (l0 : List Opt) (cls : List (List Opt)) (ru : Int) (q1 : ∀ l ∈ (l0 :: cls : List (List Opt)), ClsL l) (q3 : ∀ c ∈ (c0 :: cts : List Count), CntL c) (h1 : (l0 :: cls : List (List Opt)).length ≤ 5) (h2 : ([] : List Pair).length ≤ 200) (h3 : (c0 :: cts : List Count).length ≤ 6) (h4 : ∀ p ∈ ([] : List Pair), p.table.length ≤ 100) :
    ACall Tryz.prog 33 [.ptr 0 2 0 0, ag (Model.cells ⟨l0 :: cls, [], c0 :: cts, ru⟩)] [dice t k] (fun r H' => ∃ (y : Model) (k' : Nat), k' ≤ t.length ∧ LaidX y ∧ Leq r (ag y.cells) ∧ H' = [dice t k']) := by
  have q2 : ∀ p ∈ ([] : List Pair), YY p := fun _ _ => trivial
  obtain ⟨q3a, q3b⟩ := List.forall_mem_cons.1 q3
  simp only [List.length_cons] at h3
  obtain ⟨q1a, q1b⟩ := List.forall_mem_cons.1 q1
  simp only [List.length_cons] at h1
  dsimp only [Model.cells]
  refine acall_of tok mixed 126 rfl (fn := Tryz.f33) (c := Tryz.f33.body.getD .skip) (by kernel_rfl) (by kernel_rfl) (by kernel_rfl) rfl 1 rfl ?_
  repeat' (first | ((refine retL rfl rfl rfl ?_ rfl rfl rfl ?_; · repeat' (first | exact True.intro | refine And.intro ?_ ?_ | (show 0 + _ ≤ List.length _; simp) | refine okL1 ?_))) | refine o1 ?_ | refine o2 ?_ | refine k1 ?_ | refine k2 ?_ | refine k3 ?_ | refine k4 ?_ | refine k6 ?_ | refine k7 ?_ | refine And.intro ?_ ?_ | refine o3 ?_ | refine o4 ?_ | (intro h; first | exact Bool.noConfusion h | exact nz _ h | exact nl h | (simp at h; done) | (simp at h; first | (exfalso; omega) | skip) | skip) | (refine (?_ : srcLen _ = rowsLen _); rfl) | exact Nat.le_of_ble_eq_true rfl | exact (by kernel_rfl : drawOk _ _ = true) | refine eqv_wrap (by omega) (by omega) ?_ | (refine (?_ : _ ≤ 140737488355328); simp [rowsLen] <;> omega) | (refine (?_ : _ ≤ 9223372036854775807); simp [rowsLen] <;> omega) | (refine (?_ : _ = rowsLen _); simp [rowsLen] <;> omega) | (change vcFun _ _ _ _ _; refine call_next 0 rfl (by assumption) (by assumption) (by omega) (by omega) ?_; intro v kq hv1 hv2 hkq) | (change vcFunD _ _ _ _ _; refine callD_next 0 rfl (by assumption) (by assumption) (by omega) (by omega) ?_; intro v kq hv1 hv2 hkq) | (refine app_wholem ?_) | (refine app_mlast ?_) | (refine app_cons ?_) | (refine lit_idx (by assumption) (by assumption) (fun kx hkx => ?_)) | (refine lit4_load rfl (by assumption) ?_ ?_ ?_ ?_) | (refine ⟨(24 + v).toNat, (24 + v).toNat, by omega, by omega, Nat.le_refl _, ?_⟩) | ((refine (?_ : Int.toNat _ * _ ≤ _); omega)) | (refine (eqv_rfl ?_ : eqv (List.replicate _ _) _)) | fail)
  all_goals try (refine ret_conv [0] [dice t kq] rfl rfl ⟨rfl, trivial⟩ rfl (by repeat' (first | exact True.intro | refine And.intro ?_ ?_ | (show 0 + _ ≤ List.length _; simp))) rfl (fin_model kq hkq ?_ ?_ ?_))
  all_goals repeat' (first | exact SlOf.nil | refine SlOf.sl ?_ (by simp <;> omega) | exact RowsOf.map (by assumption) | exact RowsOf.nil | refine RowsOf.cons ?_ ?_ | refine RowsOf.app ?_ ?_ | refine RowsOf.take ?_ | refine RowsOf.drop ?_ | refine RowsOf.rep ?_ | exact RowOf.mk (by assumption) PLeL.refl | exact row_load | exact row_charge | refine row_count ?_ | refine row_opt ?_ | refine row_cls ?_)
end Go.Proofs.YtihpjcmloecaaaaGreat.Cw
/-
  Odd models: no counts.
-/
namespace Go.Proofs.YtihpjcmloecaaaaGreat.Cw
open Go.Cw Go.Proofs
set_option linter.unusedVariables false
set_option maxRecDepth 100000
set_option maxHeartbeats 30000000
theorem c_odd100 (t : List Int) (k : Nat) (ht : t.length ≤ 400) (hk : k ≤ t.length) (p0 : Pair) (prs : List Pair) (ru : Int) (q1 : ∀ l ∈ ([] : List (List Opt)), ClsL l) (q3 : ∀ c ∈ ([] : List Count), CntL c) (h1 : ([] : List (List Opt)).length ≤ 5) (h2 : (p0 :: prs : List Pair).length ≤ 200) (h3 : ([] : List Count).length ≤ 6) (h4 : ∀ p ∈ (p0 :: prs : List Pair), p.table.length ≤ 100) :
    ACall Tryz.prog 33 [.ptr 0 2 0 0, ag (Model.cells ⟨[], p0 :: prs, [], ru⟩)] [dice t k] (fun r H' => ∃ (y : Model) (k' : Nat), k' ≤ t.length ∧ LaidX y ∧ Leq r (ag y.cells) ∧ H' = [dice t k']) := by
  have q2 : ∀ p ∈ (p0 :: prs : List Pair), YY p := fun _ _ => trivial
  have h5 := h4 p0 (by simp)
  obtain ⟨q2a, q2b⟩ := List.forall_mem_cons.1 q2
  simp only [List.length_cons] at h2
  dsimp only [Model.cells]
  refine acall_of tok mixed 126 rfl (fn := Tryz.f33) (c := Tryz.f33.body.getD .skip) (by kernel_rfl) (by kernel_rfl) (by kernel_rfl) rfl 1 rfl ?_
  repeat' (first | ((refine ret0 rfl rfl rfl ?_ rfl rfl rfl ?_; · repeat' (first | exact True.intro | refine And.intro ?_ ?_ | (show 0 + _ ≤ List.length _; simp) | refine okL1 ?_))) | refine o1 ?_ | refine o2 ?_ | refine k1 ?_ | refine k2 ?_ | refine k3 ?_ | refine k4 ?_ | refine k7 ?_ | refine And.intro ?_ ?_ | refine o3 ?_ | refine o4 ?_ | (intro h; first | exact Bool.noConfusion h | exact nz _ h | exact nl h | (simp at h; done) | (simp at h; first | (exfalso; omega) | skip) | skip) | (refine (?_ : srcLen _ = rowsLen _); rfl) | exact Nat.le_of_ble_eq_true rfl | exact (by kernel_rfl : drawOk _ _ = true) | refine eqv_zero ?_ | refine eqv_wrap (by omega) (by omega) ?_ | (refine (?_ : _ ≤ 140737488355328); simp [rowsLen] <;> omega) | (refine (?_ : _ ≤ 9223372036854775807); simp [rowsLen] <;> omega) | (refine (?_ : _ = rowsLen _); simp [rowsLen] <;> omega) | refine eqv_to _ (app_first rfl) (eqv_to 1 rfl ?_) | refine idx_ms _ (by first | rfl | assumption) (by first | assumption | omega) ?_ | (change vcFun _ _ _ _ _; refine call_next 0 rfl (by assumption) (by assumption) (by omega) (by omega) ?_; intro v kq hv1 hv2 hkq) | (change vcFunD _ _ _ _ _; refine callD_next 0 rfl (by assumption) (by assumption) (by omega) (by omega) ?_; intro v kq hv1 hv2 hkq) | (refine app_wholem ?_) | (refine app_mfirst ?_) | (refine app_cons ?_) | (refine app_lit ?_) | (refine set0p ?_) | (refine set0m ?_) | (refine row0_load ?_) | (refine lit_idx (by assumption) (by assumption) (fun kx hkx => ?_)) | (refine lit4_load rfl (by assumption) ?_ ?_ ?_ ?_) | (refine ⟨(24 + v).toNat, (24 + v).toNat, by omega, by omega, Nat.le_refl _, ?_⟩) | ((refine (?_ : Int.toNat _ * _ ≤ _); omega)) | (refine (eqv_rfl ?_ : eqv (List.replicate _ _) _)) | fail)
  all_goals try (refine ret_conv [0] [dice t kq] rfl rfl ⟨rfl, trivial⟩ rfl (by repeat' (first | exact True.intro | refine And.intro ?_ ?_ | (show 0 + _ ≤ List.length _; simp) | refine okL1 ?_)) rfl (fin_model kq hkq ?_ ?_ ?_))
  all_goals repeat' (first | exact SlOf.nil | refine SlOf.sl ?_ (by simp <;> omega) | exact RowsOf.map (by assumption) | exact RowsOf.map (f := eI) (fun _ _ => trivial) | exact RowsOf.nil | refine RowsOf.cons ?_ ?_ | refine RowsOf.app ?_ ?_ | refine RowsOf.take ?_ | refine RowsOf.drop ?_ | refine RowsOf.rep ?_ | exact RowOf.mk (by assumption) PLeL.refl | exact row_load | exact row_charge | refine row_count ?_ | refine row_pair (n := 1000) ?_ | refine row_opt ?_ | refine row_cls ?_)
theorem c_odd101 (t : List Int) (k : Nat) (ht : t.length ≤ 400) (hk : k ≤ t.length) (p0 : Pair) (prs : List Pair) (l0 : List Opt) (cls : List (List Opt)) (ru : Int) (q1 : ∀ l ∈ (l0 :: cls : List (List Opt)), ClsL l) (q3 : ∀ c ∈ ([] : List Count), CntL c) (h1 : (l0 :: cls : List (List Opt)).length ≤ 5) (h2 : (p0 :: prs : List Pair).length ≤ 200) (h3 : ([] : List Count).length ≤ 6) (h4 : ∀ p ∈ (p0 :: prs : List Pair), p.table.length ≤ 100) :
    ACall Tryz.prog 33 [.ptr 0 2 0 0, ag (Model.cells ⟨l0 :: cls, p0 :: prs, [], ru⟩)] [dice t k] (fun r H' => ∃ (y : Model) (k' : Nat), k' ≤ t.length ∧ LaidX y ∧ Leq r (ag y.cells) ∧ H' = [dice t k']) := by
  have q2 : ∀ p ∈ (p0 :: prs : List Pair), YY p := fun _ _ => trivial
  have h5 := h4 p0 (by simp)
  obtain ⟨q2a, q2b⟩ := List.forall_mem_cons.1 q2
  simp only [List.length_cons] at h2
  obtain ⟨q1a, q1b⟩ := List.forall_mem_cons.1 q1
  simp only [List.length_cons] at h1
  dsimp only [Model.cells]
  refine acall_of tok mixed 126 rfl (fn := Tryz.f33) (c := Tryz.f33.body.getD .skip) (by kernel_rfl) (by kernel_rfl) (by kernel_rfl) rfl 1 rfl ?_
  repeat' (first | ((refine retL rfl rfl rfl ?_ rfl rfl rfl ?_; · repeat' (first | exact True.intro | refine And.intro ?_ ?_ | (show 0 + _ ≤ List.length _; simp) | refine okL1 ?_))) | ((refine ret0 rfl rfl rfl ?_ rfl rfl rfl ?_; · repeat' (first | exact True.intro | refine And.intro ?_ ?_ | (show 0 + _ ≤ List.length _; simp) | refine okL1 ?_))) | refine o1 ?_ | refine o2 ?_ | refine k1 ?_ | refine k2 ?_ | refine k3 ?_ | refine k4 ?_ | refine k7 ?_ | refine And.intro ?_ ?_ | refine o3 ?_ | refine o4 ?_ | (intro h; first | exact Bool.noConfusion h | exact nz _ h | exact nl h | (simp at h; done) | (simp at h; first | (exfalso; omega) | skip) | skip) | (refine (?_ : srcLen _ = rowsLen _); rfl) | exact Nat.le_of_ble_eq_true rfl | exact (by kernel_rfl : drawOk _ _ = true) | refine eqv_zero ?_ | refine eqv_wrap (by omega) (by omega) ?_ | (refine (?_ : _ ≤ 140737488355328); simp [rowsLen] <;> omega) | (refine (?_ : _ ≤ 9223372036854775807); simp [rowsLen] <;> omega) | (refine (?_ : _ = rowsLen _); simp [rowsLen] <;> omega) | refine eqv_to _ (app_first rfl) (eqv_to 1 rfl ?_) | refine idx_ms _ (by first | rfl | assumption) (by first | assumption | omega) ?_ | (change vcFun _ _ _ _ _; refine call_next 0 rfl (by assumption) (by assumption) (by omega) (by omega) ?_; intro v kq hv1 hv2 hkq) | (change vcFunD _ _ _ _ _; refine callD_next 0 rfl (by assumption) (by assumption) (by omega) (by omega) ?_; intro v kq hv1 hv2 hkq) | (refine app_wholem ?_) | (refine app_mfirst ?_) | (refine app_mlast ?_) | (refine app_cons ?_) | (refine app_lit ?_) | (refine set0p ?_) | (refine set0m ?_) | (refine row0_load ?_) | (refine lit_idx (by assumption) (by assumption) (fun kx hkx => ?_)) | (refine lit4_load rfl (by assumption) ?_ ?_ ?_ ?_) | (refine ⟨(24 + v).toNat, (24 + v).toNat, by omega, by omega, Nat.le_refl _, ?_⟩) | ((refine (?_ : Int.toNat _ * _ ≤ _); omega)) | (refine (eqv_rfl ?_ : eqv (List.replicate _ _) _)) | fail)
  all_goals try (refine ret_conv [0] [dice t kq] rfl rfl ⟨rfl, trivial⟩ rfl (by repeat' (first | exact True.intro | refine And.intro ?_ ?_ | (show 0 + _ ≤ List.length _; simp) | refine okL1 ?_)) rfl (fin_model kq hkq ?_ ?_ ?_))
  all_goals repeat' (first | exact SlOf.nil | refine SlOf.sl ?_ (by simp <;> omega) | exact RowsOf.map (by assumption) | exact RowsOf.map (f := eI) (fun _ _ => trivial) | exact RowsOf.nil | refine RowsOf.cons ?_ ?_ | refine RowsOf.app ?_ ?_ | refine RowsOf.take ?_ | refine RowsOf.drop ?_ | refine RowsOf.rep ?_ | exact RowOf.mk (by assumption) PLeL.refl | exact row_load | exact row_charge | refine row_count ?_ | refine row_pair (n := 1000) ?_ | refine row_opt ?_ | refine row_cls ?_)
end Go.Proofs.YtihpjcmloecaaaaGreat.Cw
/-
  Odd models: pairs and counts.
-/
namespace Go.Proofs.YtihpjcmloecaaaaGreat.Cw
open Go.Cw Go.Proofs
set_option linter.unusedVariables false
set_option maxRecDepth 100000
set_option maxHeartbeats 30000000
theorem c_odd110 (t : List Int) (k : Nat) (ht : t.length ≤ 400) (hk : k ≤ t.length) (p0 : Pair) (prs : List Pair) (c0 : Count) (cts : List Count) (ru : Int) (q1 : ∀ l ∈ ([] : List (List Opt)), ClsL l) (q3 : ∀ c ∈ (c0 :: cts : List Count), CntL c) (h1 : ([] : List (List Opt)).length ≤ 5) (h2 : (p0 :: prs : List Pair).length ≤ 200) (h3 : (c0 :: cts : List Count).length ≤ 6) (h4 : ∀ p ∈ (p0 :: prs : List Pair), p.table.length ≤ 100) :
    ACall Tryz.prog 33 [.ptr 0 2 0 0, ag (Model.cells ⟨[], p0 :: prs, c0 :: cts, ru⟩)] [dice t k] (fun r H' => ∃ (y : Model) (k' : Nat), k' ≤ t.length ∧ LaidX y ∧ Leq r (ag y.cells) ∧ H' = [dice t k']) := by
  have q2 : ∀ p ∈ (p0 :: prs : List Pair), YY p := fun _ _ => trivial
  have h5 := h4 p0 (by simp)
  obtain ⟨q2a, q2b⟩ := List.forall_mem_cons.1 q2
  simp only [List.length_cons] at h2
  obtain ⟨q3a, q3b⟩ := List.forall_mem_cons.1 q3
  simp only [List.length_cons] at h3
  dsimp only [Model.cells]
  refine acall_of tok mixed 126 rfl (fn := Tryz.f33) (c := Tryz.f33.body.getD .skip) (by kernel_rfl) (by kernel_rfl) (by kernel_rfl) rfl 1 rfl ?_
  repeat' (first | ((refine retL rfl rfl rfl ?_ rfl rfl rfl ?_; · repeat' (first | exact True.intro | refine And.intro ?_ ?_ | (show 0 + _ ≤ List.length _; simp) | refine okL1 ?_))) | ((refine ret0 rfl rfl rfl ?_ rfl rfl rfl ?_; · repeat' (first | exact True.intro | refine And.intro ?_ ?_ | (show 0 + _ ≤ List.length _; simp) | refine okL1 ?_))) | refine o1 ?_ | refine o2 ?_ | refine k1 ?_ | refine k2 ?_ | refine k3 ?_ | refine k4 ?_ | refine k7 ?_ | refine And.intro ?_ ?_ | refine o3 ?_ | refine o4 ?_ | (intro h; first | exact Bool.noConfusion h | exact nz _ h | exact nl h | (simp at h; done) | (simp at h; first | (exfalso; omega) | skip) | skip) | (refine (?_ : srcLen _ = rowsLen _); rfl) | exact Nat.le_of_ble_eq_true rfl | exact (by kernel_rfl : drawOk _ _ = true) | refine eqv_zero ?_ | refine eqv_wrap (by omega) (by omega) ?_ | (refine (?_ : _ ≤ 140737488355328); simp [rowsLen] <;> omega) | (refine (?_ : _ ≤ 9223372036854775807); simp [rowsLen] <;> omega) | (refine (?_ : _ = rowsLen _); simp [rowsLen] <;> omega) | refine idx_ms _ (by first | rfl | assumption) (by first | assumption | omega) ?_ | (change vcFun _ _ _ _ _; refine call_next 0 rfl (by assumption) (by assumption) (by omega) (by omega) ?_; intro v kq hv1 hv2 hkq) | (change vcFunD _ _ _ _ _; refine callD_next 0 rfl (by assumption) (by assumption) (by omega) (by omega) ?_; intro v kq hv1 hv2 hkq) | (refine app_wholem ?_) | (refine app_mfirst ?_) | (refine app_mlast ?_) | (refine app_cons ?_) | (refine app_lit ?_) | (refine set0p ?_) | (refine set0m ?_) | (refine row0_load ?_) | (refine lit_idx (by assumption) (by assumption) (fun kx hkx => ?_)) | (refine lit4_load rfl (by assumption) ?_ ?_ ?_ ?_) | (refine ⟨(24 + v).toNat, (24 + v).toNat, by omega, by omega, Nat.le_refl _, ?_⟩) | ((refine (?_ : Int.toNat _ * _ ≤ _); omega)) | (refine (eqv_rfl ?_ : eqv (List.replicate _ _) _)) | fail)
  all_goals try (refine ret_conv [0] [dice t kq] rfl rfl ⟨rfl, trivial⟩ rfl (by repeat' (first | exact True.intro | refine And.intro ?_ ?_ | (show 0 + _ ≤ List.length _; simp) | refine okL1 ?_)) rfl (fin_model kq hkq ?_ ?_ ?_))
  all_goals repeat' (first | exact SlOf.nil | refine SlOf.sl ?_ (by simp <;> omega) | exact RowsOf.map (by assumption) | exact RowsOf.map (f := eI) (fun _ _ => trivial) | exact RowsOf.nil | refine RowsOf.cons ?_ ?_ | refine RowsOf.app ?_ ?_ | refine RowsOf.take ?_ | refine RowsOf.drop ?_ | refine RowsOf.rep ?_ | exact RowOf.mk (by assumption) PLeL.refl | exact row_load | exact row_charge | refine row_count ?_ | refine row_pair (n := 1000) ?_ | refine row_opt ?_ | refine row_cls ?_)
theorem c_odd111 (t : List Int) (k : Nat) (ht : t.length ≤ 400) (hk : k ≤ t.length) (p0 : Pair) (prs : List Pair) (c0 : Count) (cts : List Count) (l0 : List Opt) (cls : List (List Opt)) (ru : Int) (q1 : ∀ l ∈ (l0 :: cls : List (List Opt)), ClsL l) (q3 : ∀ c ∈ (c0 :: cts : List Count), CntL c) (h1 : (l0 :: cls : List (List Opt)).length ≤ 5) (h2 : (p0 :: prs : List Pair).length ≤ 200) (h3 : (c0 :: cts : List Count).length ≤ 6) (h4 : ∀ p ∈ (p0 :: prs : List Pair), p.table.length ≤ 100) :
    ACall Tryz.prog 33 [.ptr 0 2 0 0, ag (Model.cells ⟨l0 :: cls, p0 :: prs, c0 :: cts, ru⟩)] [dice t k] (fun r H' => ∃ (y : Model) (k' : Nat), k' ≤ t.length ∧ LaidX y ∧ Leq r (ag y.cells) ∧ H' = [dice t k']) := by
  have q2 : ∀ p ∈ (p0 :: prs : List Pair), YY p := fun _ _ => trivial
  have h5 := h4 p0 (by simp)
  obtain ⟨q2a, q2b⟩ := List.forall_mem_cons.1 q2
  simp only [List.length_cons] at h2
  obtain ⟨q3a, q3b⟩ := List.forall_mem_cons.1 q3
  simp only [List.length_cons] at h3
  obtain ⟨q1a, q1b⟩ := List.forall_mem_cons.1 q1
  simp only [List.length_cons] at h1
  dsimp only [Model.cells]
  refine acall_of tok mixed 126 rfl (fn := Tryz.f33) (c := Tryz.f33.body.getD .skip) (by kernel_rfl) (by kernel_rfl) (by kernel_rfl) rfl 1 rfl ?_
  repeat' (first | ((refine retL rfl rfl rfl ?_ rfl rfl rfl ?_; · repeat' (first | exact True.intro | refine And.intro ?_ ?_ | (show 0 + _ ≤ List.length _; simp) | refine okL1 ?_))) | ((refine ret0 rfl rfl rfl ?_ rfl rfl rfl ?_; · repeat' (first | exact True.intro | refine And.intro ?_ ?_ | (show 0 + _ ≤ List.length _; simp) | refine okL1 ?_))) | refine o1 ?_ | refine o2 ?_ | refine k1 ?_ | refine k2 ?_ | refine k3 ?_ | refine k4 ?_ | refine k7 ?_ | refine And.intro ?_ ?_ | refine o3 ?_ | refine o4 ?_ | (intro h; first | exact Bool.noConfusion h | exact nz _ h | exact nl h | (simp at h; done) | (simp at h; first | (exfalso; omega) | skip) | skip) | (refine (?_ : srcLen _ = rowsLen _); rfl) | exact Nat.le_of_ble_eq_true rfl | exact (by kernel_rfl : drawOk _ _ = true) | refine eqv_zero ?_ | refine eqv_wrap (by omega) (by omega) ?_ | (refine (?_ : _ ≤ 140737488355328); simp [rowsLen] <;> omega) | (refine (?_ : _ ≤ 9223372036854775807); simp [rowsLen] <;> omega) | (refine (?_ : _ = rowsLen _); simp [rowsLen] <;> omega) | refine idx_ms _ (by first | rfl | assumption) (by first | assumption | omega) ?_ | (change vcFun _ _ _ _ _; refine call_next 0 rfl (by assumption) (by assumption) (by omega) (by omega) ?_; intro v kq hv1 hv2 hkq) | (change vcFunD _ _ _ _ _; refine callD_next 0 rfl (by assumption) (by assumption) (by omega) (by omega) ?_; intro v kq hv1 hv2 hkq) | (refine app_wholem ?_) | (refine app_mlast ?_) | (refine app_cons ?_) | (refine app_lit ?_) | (refine set0p ?_) | (refine set0m ?_) | (refine row0_load ?_) | (refine lit_idx (by assumption) (by assumption) (fun kx hkx => ?_)) | (refine lit4_load rfl (by assumption) ?_ ?_ ?_ ?_) | (refine ⟨(24 + v).toNat, (24 + v).toNat, by omega, by omega, Nat.le_refl _, ?_⟩) | ((refine (?_ : Int.toNat _ * _ ≤ _); omega)) | (refine (eqv_rfl ?_ : eqv (List.replicate _ _) _)) | fail)
  all_goals try (refine ret_conv [0] [dice t kq] rfl rfl ⟨rfl, trivial⟩ rfl (by repeat' (first | exact True.intro | refine And.intro ?_ ?_ | (show 0 + _ ≤ List.length _; simp))) rfl (fin_model kq hkq ?_ ?_ ?_))
  all_goals repeat' (first | exact SlOf.nil | refine SlOf.sl ?_ (by simp <;> omega) | exact RowsOf.map (by assumption) | exact RowsOf.map (f := eI) (fun _ _ => trivial) | exact RowsOf.nil | refine RowsOf.cons ?_ ?_ | refine RowsOf.app ?_ ?_ | refine RowsOf.take ?_ | refine RowsOf.drop ?_ | refine RowsOf.rep ?_ | exact RowOf.mk (by assumption) PLeL.refl | exact row_load | exact row_charge | refine row_count ?_ | refine row_pair (n := 1000) ?_ | refine row_opt ?_ | refine row_cls ?_)
end Go.Proofs.YtihpjcmloecaaaaGreat.Cw
/-
  Odd models: all ways together.
-/
namespace Go.Proofs.YtihpjcmloecaaaaGreat.Cw
open Go.Cw Go.Proofs
set_option linter.unusedVariables false
set_option maxRecDepth 100000
theorem c_oddmodel0 (t : List Int) (k : Nat) (ht : t.length ≤ 400) (hk : k ≤ t.length) (m : Model) (q1 : ∀ l ∈ m.classes, ClsL l) (q3 : ∀ c ∈ m.counts, CntL c) (h1 : m.classes.length ≤ 5) (h2 : m.pairs.length ≤ 200) (h3 : m.counts.length ≤ 6) (h4 : ∀ p ∈ m.pairs, p.table.length ≤ 100) :
    ACall Tryz.prog 33 [.ptr 0 2 0 0, ag m.cells] [dice t k] (fun r H' => ∃ (y : Model) (k' : Nat), k' ≤ t.length ∧ LaidX y ∧ Leq r (ag y.cells) ∧ H' = [dice t k']) := by
  obtain ⟨cls, prs, cts, ru⟩ := m
  rcases prs with _ | ⟨p0, prs⟩ <;> rcases cts with _ | ⟨c0, cts⟩ <;> rcases cls with _ | ⟨l0, cls⟩
  · exact c_odd000 t k ht hk ru q1 q3 h1 h2 h3 h4
  · exact c_odd001 t k ht hk l0 cls ru q1 q3 h1 h2 h3 h4
  · exact c_odd010 t k ht hk c0 cts ru q1 q3 h1 h2 h3 h4
  · exact c_odd011 t k ht hk c0 cts l0 cls ru q1 q3 h1 h2 h3 h4
  · exact c_odd100 t k ht hk p0 prs ru q1 q3 h1 h2 h3 h4
  · exact c_odd101 t k ht hk p0 prs l0 cls ru q1 q3 h1 h2 h3 h4
  · exact c_odd110 t k ht hk p0 prs c0 cts ru q1 q3 h1 h2 h3 h4
  · exact c_odd111 t k ht hk p0 prs c0 cts l0 cls ru q1 q3 h1 h2 h3 h4
end Go.Proofs.YtihpjcmloecaaaaGreat.Cw
/-
  Symmetry: the models of the laws.
-/
namespace Go.Proofs.YtihpjcmloecaaaaGreat.Cw
open Go Go.Cw Go.Proofs
set_option linter.unusedVariables false
set_option maxRecDepth 100000
set_option maxHeartbeats 8000000
theorem c_oddeven (t : List Int) (k : Nat) (ht : t.length ≤ 400) (hk : k ≤ t.length) (m : Model) (hm : EvM m) :
    ACall Tryz.prog 33 [.ptr 0 2 0 0, ag m.cells] [dice t k] (fun r H' => ∃ (y : Model) (k' : Nat), k' ≤ t.length ∧ LaidX y ∧ r = ag y.cells ∧ H' = [dice t k']) :=
  (c_oddmodel0 t k ht hk m (fun l hl => ⟨by have := (hm.cls l hl).le; omega, hm.laid.ch l hl⟩) hm.laid.ld hm.few hm.prs hm.cts hm.tabs).weak fun r H' ⟨y, k', g1, g2, g3, g4⟩ => ⟨_, g3.le, y, k', g1, g2, rfl, g4⟩
theorem c_model (t : List Int) (k : Nat) (ht : t.length ≤ 400) (hk : k ≤ t.length) :
    ACall Tryz.prog 11 [.ptr 0 2 0 0] [dice t k] (fun r H' => ∃ (m : Model) (k' : Nat), k' ≤ t.length ∧ LaidX m ∧ r = ag m.cells ∧ H' = [dice t k']) := by
  refine acall_of tok mixed 20 rfl (fn := Tryz.f11) (c := Tryz.f11.body.getD .skip) (by kernel_rfl) (by kernel_rfl) (by kernel_rfl) rfl 1 rfl ?_
  repeat' (first | ((change vcFun _ _ _ _ _; refine call_one (i := 0) rfl (fun _ _ => rfl) [.ptr 0 2 0 0, vint .i64 3, vint .i64 4] rfl (c_dmodel t kq ht hkq 3 4 ⟨by omega, by omega⟩ ⟨by omega, by omega⟩) ?_; rintro r H' ⟨m, ky, c1, c2, rfl, rfl⟩; refine ⟨_, rfl, fun _ _ => rfl, fun _ _ => rfl, ?_⟩)) | ((change vcFun _ _ _ _ _; refine call_one (i := 0) rfl (fun _ _ => rfl) [.ptr 0 2 0 0, vint .i64 3, vint .i64 2] rfl (c_even t kq ht hkq 3 2 (by omega) (by omega) (by omega)) ?_; rintro r H' ⟨m, ky, c1, c2, rfl, rfl⟩; refine ⟨_, rfl, fun _ _ => rfl, fun _ _ => rfl, ?_⟩)) | ((change vcFun _ _ _ _ _; refine call_one (i := 0) rfl (fun _ _ => rfl) [.ptr 0 2 0 0, ag m.cells] rfl (c_oddeven t ky ht c1 m c2) ?_; rintro r H' ⟨y, kz, d1, d2, rfl, rfl⟩; refine ⟨_, rfl, fun _ _ => rfl, fun _ _ => rfl, ?_⟩)) | refine o1 ?_ | refine o2 ?_ | refine k1 ?_ | refine k2 ?_ | refine k3 ?_ | refine k4 ?_ | refine k6 ?_ | refine k7 ?_ | refine And.intro ?_ ?_ | (intro h; first | exact Bool.noConfusion h | exact nz _ h | exact nl h | (simp at h; done) | (simp at h; first | (exfalso; omega) | skip) | skip) | exact (by kernel_rfl : drawOk _ _ = true) | refine eqv_wrap (by omega) (by omega) ?_ | (change vcFun _ _ _ _ _; refine call_next 0 rfl (by assumption) (by assumption) (by omega) (by omega) ?_; intro v kq hv1 hv2 hkq) | fail)
  · exact ret_obj [0] [dice t ky] rfl rfl ⟨rfl, trivial⟩ (r' := ag m.cells) rfl ⟨m, ky, c1, ⟨c2.laid, by have := c2.few; omega, fun l hl => by have := (c2.some_ l hl).2; omega⟩, rfl, rfl⟩
  · exact ret_obj [0] [dice t kz] rfl rfl ⟨rfl, trivial⟩ (r' := ag y.cells) rfl ⟨y, kz, d1, d2, rfl, rfl⟩
  obtain ⟨R, hR⟩ : ∃ R : Nat, 2 + v = (R : Int) := ⟨(2 + v).toNat, by omega⟩
  rw [hR]
  change vcFun _ _ _ _ _
  refine call_one (i := 0) rfl (fun _ _ => rfl) [.ptr 0 2 0 0, vint .i64 4, vint .i64 R] rfl (c_even t kq ht (by assumption) 4 R (by omega) (by omega) (by omega)) ?_
  rintro r H' ⟨m, ky, c1, c2, rfl, rfl⟩
  refine ⟨_, rfl, fun _ _ => rfl, fun _ _ => rfl, ?_⟩
  repeat' (first | refine o1 ?_ | refine o2 ?_ | refine k7 ?_ | fail)
  exact ret_obj [0] [dice t ky] rfl rfl ⟨rfl, trivial⟩ (r' := ag m.cells) rfl ⟨m, ky, c1, ⟨c2.laid, by have := c2.few; omega, fun l hl => by have := (c2.cls l hl).le; omega⟩, rfl, rfl⟩
end Go.Proofs.YtihpjcmloecaaaaGreat.Cw
/-
  Symmetry, plain: the sets of rooms; what the steps of the canonical plan do.
-/
namespace Go.Proofs.YtihpjcmloecaaaaGreat.Cw
open Go Go.Cw Go.Proofs
set_option linter.unusedVariables false
theorem exch_symm {r a b : Int} : exch r a b = exch r b a := by
  unfold exch
  split
  · split
    · omega
    · rfl
  · split <;> rfl
theorem swapO_symm {l : List Opt} {a b : Int} {i : Nat} : swapO l a b i = swapO l b a i := by
  unfold swapO
  cases l[i]? with
  | none => rfl
  | some o => simp only [exch_symm]
theorem imN_symm {l : List Opt} {a b : Int} {i : Nat} : imN l a b i = imN l b a i := by unfold imN; rw [swapO_symm]
theorem swapP_symm {m : Model} {a b : Int} (h : swapP m a b) : swapP m b a := by
  obtain ⟨h1, h2, h3⟩ := h
  refine ⟨fun l hl i hi => ?_, fun p hp x y hx hy i hi k hk => ?_, ?_⟩
  · obtain ⟨j, o, q, g⟩ := h1 l hl i hi
    exact ⟨j, o, q, by rw [← swapO_symm]; exact g.1, g.2⟩
  · rw [← imN_symm, ← imN_symm (l := y)]; exact h2 p hp x y hx hy i hi k hk
  · unfold cntSame at *
    rw [h3]
    congr 1
    funext l
    unfold imLoad
    cases m.classes[l.cls.toNat]? with
    | none => rfl
    | some x => simp only [imN_symm]
structure SetsOk (m : Model) (l : List Int) (S : List (List Int)) : Prop where
  sub : ∀ s ∈ S, ∀ x ∈ s, x ∈ l
  nd : ∀ s ∈ S, s.Nodup
  dis : S.Pairwise fun s t => ∀ x ∈ s, x ∉ t
  sw : ∀ s ∈ S, ∀ x ∈ s, ∀ y ∈ s, x ≠ y → swapP m x y
theorem sets_ok {m : Model} (hz : sizedP m) (hg : goodP m) : ∀ {n : Nat} {l : List Int}, l.Nodup → SetsOk m l (setsF m n l)
  | 0, l, _ => ⟨fun s h => absurd h List.not_mem_nil, fun s h => absurd h List.not_mem_nil, List.Pairwise.nil, fun s h => absurd h List.not_mem_nil⟩
  | n + 1, [], _ => ⟨fun s h => absurd h List.not_mem_nil, fun s h => absurd h List.not_mem_nil, List.Pairwise.nil, fun s h => absurd h List.not_mem_nil⟩
  | n + 1, x :: l, hnd => by
    obtain ⟨hx, hl⟩ := List.nodup_cons.1 hnd
    have ih := sets_ok hz hg (n := n) (l := l.filter fun b => !swB m x b) (List.Pairwise.filter _ hl)
    have hset : SetsOk m (x :: l) [x :: l.filter (swB m x)] := by
      refine ⟨fun s h y hy => ?_, fun s h => ?_, List.pairwise_singleton .., fun s h y hy z hz' hne => ?_⟩
      · obtain rfl := List.mem_singleton.1 h
        rcases List.mem_cons.1 hy with rfl | hy
        · exact List.mem_cons_self ..
        · exact List.mem_cons_of_mem _ (List.mem_filter.1 hy).1
      · obtain rfl := List.mem_singleton.1 h
        exact List.nodup_cons.2 ⟨fun h => hx (List.mem_filter.1 h).1, List.Pairwise.filter _ hl⟩
      · obtain rfl := List.mem_singleton.1 h
        rcases List.mem_cons.1 hy with rfl | hy
        · rcases List.mem_cons.1 hz' with rfl | hz'
          · exact absurd rfl hne
          · exact sw_iff.1 (List.mem_filter.1 hz').2
        · have h1 := sw_iff.1 (List.mem_filter.1 hy).2
          rcases List.mem_cons.1 hz' with rfl | hz'
          · exact swapP_symm h1
          · have h2 := sw_iff.1 (List.mem_filter.1 hz').2
            have n1 : y ≠ x := fun e => hx (e ▸ (List.mem_filter.1 hy).1)
            have n2 : z ≠ x := fun e => hx (e ▸ (List.mem_filter.1 hz').1)
            exact swap_trans hz hg hne n1 n2 (swapP_symm h1) (swapP_symm h2)
    unfold setsF
    split
    · refine ⟨fun s h y hy => ?_, ih.nd, ih.dis, ih.sw⟩
      exact List.mem_cons_of_mem _ (List.mem_filter.1 (ih.sub s h y hy)).1
    · refine ⟨fun s h y hy => ?_, fun s h => ?_, ?_, fun s h => ?_⟩
      · rcases List.mem_append.1 h with h | h
        · exact hset.sub s h y hy
        · exact List.mem_cons_of_mem _ (List.mem_filter.1 (ih.sub s h y hy)).1
      · rcases List.mem_append.1 h with h | h
        · exact hset.nd s h
        · exact ih.nd s h
      · refine List.pairwise_append.2 ⟨hset.dis, ih.dis, fun s h t ht y hy hyt => ?_⟩
        obtain rfl := List.mem_singleton.1 h
        have h2 := List.mem_filter.1 (ih.sub t ht y hyt)
        rcases List.mem_cons.1 hy with rfl | hy
        · exact hx h2.1
        · have := (List.mem_filter.1 hy).2
          rw [this] at h2; simp at h2
      · rcases List.mem_append.1 h with h | h
        · exact hset.sw s h
        · exact ih.sw s h
theorem setsV_ok {m : Model} (hok : modelE m = 0) : SetsOk m (roomsV m) (setsV m) := by
  unfold setsV
  rw [if_pos hok]
  exact sets_ok (model_sized hok) (model_good hok) ((rooms_spec m).2.imp fun h => by omega)
theorem pairwise_mem {α : Type} {R : α → α → Prop} : ∀ {l : List α}, l.Pairwise R → ∀ {s t : α}, s ∈ l → t ∈ l → s = t ∨ R s t ∨ R t s
  | [], _, s, t, h, _ => absurd h List.not_mem_nil
  | a :: l, hp, s, t, hs, ht => by
    obtain ⟨h1, h2⟩ := List.pairwise_cons.1 hp
    rcases List.mem_cons.1 hs with e1 | hs1
    · rcases List.mem_cons.1 ht with e2 | ht1
      · exact .inl (e1.trans e2.symm)
      · exact .inr (.inl (e1 ▸ h1 t ht1))
    · rcases List.mem_cons.1 ht with e2 | ht1
      · exact .inr (.inr (e2 ▸ h1 s hs1))
      · exact pairwise_mem h2 hs1 ht1
theorem SetsOk.same {m : Model} {l : List Int} {S : List (List Int)} (h : SetsOk m l S) {s t : List Int} (hs : s ∈ S) (ht : t ∈ S) {x : Int} (h1 : x ∈ s) (h2 : x ∈ t) : s = t := by
  rcases pairwise_mem h.dis hs ht with e | e | e
  · exact e
  · exact absurd h2 (e x h1)
  · exact absurd h1 (e x h2)
theorem setF_mem {m : Model} {l : List Int} {S : List (List Int)} (h : SetsOk m l S) {s : List Int} (hs : s ∈ S) {r : Int} (hr : r ∈ s) : setF S r = s := by
  unfold setF
  cases hf : S.find? fun s => pB (r ∈ s) with
  | none => have := List.find?_eq_none.1 hf s hs; rw [pB_t hr] at this; exact absurd rfl this
  | some t =>
    have h1 := List.mem_of_find?_eq_some hf
    have h2 := List.find?_some hf
    exact h.same h1 hs (by simpa using h2) hr
theorem setF_none {S : List (List Int)} {r : Int} (h : ∀ s ∈ S, r ∉ s) : setF S r = [] := by
  unfold setF
  rw [List.find?_eq_none.2 fun s hs => by rw [pB_f (h s hs)]; decide]; rfl
theorem img_set {m : Model} {R : List Int} {S : List (List Int)} (h : SetsOk m R S) {s : List Int} (hs : s ∈ S) {t : Int} (ht : t ∈ s) {l : List Opt} (hl : l ∈ m.classes) {o : Nat} {q : Opt} (ho : l[o]? = some q) (hr : q.place.room ∈ s) : ∃ j, imgO l o t = some j := by
  by_cases e : q.place.room = t
  · exact ⟨o, by rw [← e]; exact img_self ho⟩
  · obtain ⟨j, o', q', h1, _⟩ := (h.sw s hs _ hr t ht e).1 l hl o (List.getElem?_eq_some_iff.1 ho).1
    refine ⟨j, ?_⟩
    rw [← swap_of ho (exch_a rfl)]; exact h1
end Go.Proofs.YtihpjcmloecaaaaGreat.Cw
/-
  Symmetry, plain: the canonical plan, as_ the program and as_ the reference make it.
-/
namespace Go.Proofs.YtihpjcmloecaaaaGreat.Cw
open Go Go.Cw Go.Proofs
set_option linter.unusedVariables false
theorem nodup_le {α : Type} [DecidableEq α] : ∀ {a b : List α}, a.Nodup → (∀ x ∈ a, x ∈ b) → a.length ≤ b.length
  | [], b, _, _ => Nat.zero_le _
  | x :: a, b, h, hs => by
    obtain ⟨h1, h2⟩ := List.nodup_cons.1 h
    have hx := hs x (List.mem_cons_self ..)
    have := nodup_le (a := a) (b := b.erase x) h2 fun y hy => (List.mem_erase_of_ne (fun e : y = x => h1 (e ▸ hy))).2 (hs y (List.mem_cons_of_mem _ hy))
    rw [List.length_erase_of_mem hx] at this
    have := List.length_pos_of_mem hx
    rw [List.length_cons]; omega
theorem to_some {E : List (Int × Int)} {r t : Int} (h : toF E r = some t) : (r, t) ∈ E := by
  unfold toF at h
  obtain ⟨e, h1, rfl⟩ := Option.map_eq_some_iff.1 h
  have h2 := List.find?_some h1
  have h3 : r = e.1 := by simpa using h2
  rw [h3]; exact List.mem_of_find?_eq_some h1
theorem to_none {E : List (Int × Int)} {r : Int} (h : toF E r = none) {e : Int × Int} (he : e ∈ E) : e.1 ≠ r := fun hr => by
  unfold toF at h
  have h1 := Option.map_eq_none_iff.1 h
  have := List.find?_eq_none.1 h1 e he
  rw [hr] at this; simp at this
theorem tk_iff {E : List (Int × Int)} {t : Int} : takenB E t = true ↔ ∃ e ∈ E, e.2 = t := by
  unfold takenB
  rw [List.find?_isSome]
  constructor
  · rintro ⟨e, he, h⟩
    have h1 : t = e.2 := by simpa using h
    exact ⟨e, he, h1.symm⟩
  · rintro ⟨e, he, h⟩; exact ⟨e, he, by simp [h]⟩
theorem to_app {E : List (Int × Int)} {r b x : Int} (h : toF E r = none) : toF (E ++ [(r, b)]) x = if x = r then some b else toF E x := by
  unfold toF at *
  rw [List.find?_append]
  by_cases e : x = r
  · subst e
    rw [if_pos rfl, Option.map_eq_none_iff.1 h]
    simp
  · rw [if_neg e]
    cases hf : (E.find? fun e => x == e.1) with
    | some y => rfl
    | none => simp [e]
section
variable {E : List (Int × Int)} {g : Int → Int}
theorem pick_keep : ∀ {l : List Int} {st : Int × Int}, (∀ t ∈ l, 0 ≤ t) → 0 ≤ st.1 → 0 ≤ (l.foldl (pickS E g) st).1
  | [], st, _, h => h
  | t :: l, st, hl, h => by
    refine pick_keep (l := l) (fun t h => hl t (List.mem_cons_of_mem _ h)) ?_
    have h0 := hl t (List.mem_cons_self ..)
    unfold pickS
    split
    · exact h
    · split
      · exact h0
      · exact h
theorem pick_some : ∀ {l : List Int} {st : Int × Int}, (∀ t ∈ l, 0 ≤ t) → (∃ t ∈ l, takenB E t = false) → 0 ≤ (l.foldl (pickS E g) st).1
  | [], st, _, ⟨t, h, _⟩ => absurd h List.not_mem_nil
  | x :: l, st, hl, ⟨t, h, ht⟩ => by
    have hl2 := fun t h => hl t (List.mem_cons_of_mem _ h)
    rcases List.mem_cons.1 h with e | h5
    · subst e
      refine pick_keep (l := l) hl2 ?_
      by_cases h2 : st.1 < 0 ∨ g t < st.2
      · rw [pickS_put ht h2]; exact hl t (List.mem_cons_self ..)
      · rw [pickS_skip ht h2]; omega
    · exact pick_some (l := l) hl2 ⟨t, h5, ht⟩
theorem pick_in : ∀ {l : List Int} {st : Int × Int}, l.foldl (pickS E g) st = st ∨ ((l.foldl (pickS E g) st).1 ∈ l ∧ (l.foldl (pickS E g) st).2 = g (l.foldl (pickS E g) st).1)
  | [], st => .inl rfl
  | t :: l, st => by
    rw [List.foldl_cons]
    rcases pick_in (l := l) (st := pickS E g st t) with h | ⟨h1, h2⟩
    · rw [h]
      unfold pickS
      split
      · exact .inl rfl
      · split
        · exact .inr ⟨List.mem_cons_self .., rfl⟩
        · exact .inl rfl
    · exact .inr ⟨List.mem_cons_of_mem _ h1, h2⟩
end
structure CanI (S : List (List Int)) (E : List (Int × Int)) : Prop where
  keys : E.Pairwise fun e f => e.1 ≠ f.1
  vals : E.Pairwise fun e f => e.2 ≠ f.2
  same : ∀ e ∈ E, ∃ s ∈ S, e.1 ∈ s ∧ e.2 ∈ s
theorem CanI.nil {S : List (List Int)} : CanI S [] := ⟨List.Pairwise.nil, List.Pairwise.nil, fun e h => absurd h List.not_mem_nil⟩
section
variable {m : Model} {R : List Int} {S : List (List Int)} {E : List (Int × Int)} {s : List Int} {r : Int}
theorem CanI.free (h : CanI S E) (ok : SetsOk m R S) (hs : s ∈ S) (hr : r ∈ s) (hto : toF E r = none) : ∃ t ∈ s, takenB E t = false := by
  refine Classical.byContradiction fun hn => ?_
  have hall : ∀ t ∈ s, takenB E t = true := fun t ht => by
    cases hb : takenB E t with
    | true => rfl
    | false => exact absurd ⟨t, ht, hb⟩ hn
  have h1 : s.length ≤ ((E.filter fun e => pB (e.1 ∈ s)).map (·.2)).length := nodup_le (ok.nd s hs) fun t ht => by
    obtain ⟨e, he, rfl⟩ := tk_iff.1 (hall t ht)
    obtain ⟨s', hs', g1, g2⟩ := h.same e he
    obtain rfl := ok.same hs hs' ht g2
    exact List.mem_map.2 ⟨e, List.mem_filter.2 ⟨he, pB_t g1⟩, rfl⟩
  have h2 : (r :: (E.filter fun e => pB (e.1 ∈ s)).map (·.1)).length ≤ s.length := nodup_le
    (List.nodup_cons.2 ⟨fun hm => by
      obtain ⟨e, he, h⟩ := List.mem_map.1 hm
      exact to_none hto (List.mem_filter.1 he).1 h, List.pairwise_map.2 (List.Pairwise.filter _ h.keys)⟩) fun x hx => by
    rcases List.mem_cons.1 hx with rfl | hx
    · exact hr
    · obtain ⟨e, he, rfl⟩ := List.mem_map.1 hx
      simpa using (List.mem_filter.1 he).2
  simp only [List.length_map, List.length_cons] at h1 h2
  omega
theorem CanI.app (h : CanI S E) {b : Int} (hs : s ∈ S) (hr : r ∈ s) (hb : b ∈ s) (hto : toF E r = none) (htk : takenB E b = false) : CanI S (E ++ [(r, b)]) := by
  refine ⟨List.pairwise_append.2 ⟨h.keys, List.pairwise_singleton .., fun e he f hf => ?_⟩, List.pairwise_append.2 ⟨h.vals, List.pairwise_singleton .., fun e he f hf => ?_⟩, fun e he => ?_⟩
  · obtain rfl := List.mem_singleton.1 hf; exact to_none hto he
  · obtain rfl := List.mem_singleton.1 hf
    exact fun e2 => by have := tk_iff.2 ⟨e, he, e2⟩; rw [htk] at this; cases this
  · rcases List.mem_append.1 he with he | he
    · exact h.same e he
    · obtain rfl := List.mem_singleton.1 he; exact ⟨s, hs, hr, hb⟩
theorem step_in (h : CanI S E) (ok : SetsOk m R S) (hR : ∀ x ∈ R, 0 ≤ x) {out : List Int} {l : List Opt} {o c : Nat} (hc : c < out.length) (hs : s ∈ S) (hr : r ∈ s) :
    CanI S (canStep S l o r c (out, E)).2 ∧ ∃ t ∈ s, toF (canStep S l o r c (out, E)).2 r = some t ∧ (canStep S l o r c (out, E)).1 = out.set c (imgI (imgO l o t)) ∧
      ((toF E r = some t ∧ (canStep S l o r c (out, E)).2 = E) ∨ (toF E r = none ∧ takenB E t = false ∧ (canStep S l o r c (out, E)).2 = E ++ [(r, t)] ∧ t = (s.foldl (pickS E fun t => imgI (imgO l o t)) (-1, (o : Int))).1)) := by
  have hs0 : ∀ t ∈ s, 0 ≤ t := fun t ht => hR t (ok.sub s hs t ht)
  unfold canStep
  dsimp only
  rw [setF_mem ok hs hr]
  rcases hto : toF E r with _ | t
  · dsimp only
    have hp := pick_some (g := fun t => imgI (imgO l o t)) (st := (-1, (o : Int))) hs0 (h.free ok hs hr hto)
    have hf := pick_free (E := E) (g := fun t => imgI (imgO l o t)) (l := s) (st := (-1, (o : Int))) (.inl (by show (-1 : Int) < 0; decide))
    have hi := pick_in (E := E) (g := fun t => imgI (imgO l o t)) (l := s) (st := (-1, (o : Int)))
    generalize s.foldl (pickS E fun t => imgI (imgO l o t)) (-1, (o : Int)) = st at *
    obtain ⟨b, x⟩ := st
    dsimp only at hp hf hi ⊢
    rw [if_pos hp]
    have hi : b ∈ s ∧ x = imgI (imgO l o b) := by
      rcases hi with hi | hi
      · injection hi with h1 h2; omega
      · exact hi
    have htk : takenB E b = false := hf.elim (fun h => by omega) id
    exact ⟨h.app hs hr hi.1 hto htk, b, hi.1, by rw [to_app hto, if_pos rfl], by rw [hi.2], .inr ⟨rfl, htk, rfl, rfl⟩⟩
  · dsimp only
    obtain ⟨s', hs', g1, g2⟩ := h.same _ (to_some hto)
    obtain rfl := ok.same hs hs' hr g1
    exact ⟨h, t, g2, hto, rfl, .inl ⟨rfl, rfl⟩⟩
theorem step_out (h : CanI S E) {out : List Int} {l : List Opt} {o c : Nat} (ho : out[c]? = some (o : Int)) (hn : ∀ s ∈ S, r ∉ s) : canStep S l o r c (out, E) = (out, E) := by
  unfold canStep
  dsimp only
  rw [setF_none hn]
  rcases hto : toF E r with _ | t
  · dsimp only
    show (out.set c (o : Int), if (0 : Int) ≤ -1 then _ else E) = _
    rw [if_neg (by decide), set_same ho]
  · obtain ⟨s', hs', g1, _⟩ := h.same _ (to_some hto)
    exact absurd g1 (hn s' hs')
end
end Go.Proofs.YtihpjcmloecaaaaGreat.Cw
/-
  Symmetry, plain: what the reference's tables say; the plan, set by set.
-/
namespace Go.Proofs.YtihpjcmloecaaaaGreat.Cw
open Go Go.Cw Go.Proofs
set_option linter.unusedVariables false
theorem canStep_ne {S : List (List Int)} {l : List Opt} {o : Nat} {r : Int} {c j : Nat} {st : List Int × List (Int × Int)} (h : c ≠ j) : (canStep S l o r c st).1[j]? = st.1[j]? := by
  unfold canStep
  split
  · exact List.getElem?_set_ne h
  · exact List.getElem?_set_ne h
theorem canS_ne {m : Model} {plan : List Int} {S : List (List Int)} {c j : Nat} (h : c ≠ j) : (canS m plan S (c + 1)).1[j]? = (canS m plan S c).1[j]? := by
  rcases ho : plan[c]? with _ | o
  · rw [canS, ho]
  rcases hl : m.classes[c]? with _ | l
  · rw [canS, ho, hl]
  rw [canS_next ho hl]
  split
  · rfl
  · split
    · exact canStep_ne h
    · rfl
theorem canS_at {m : Model} {plan : List Int} {S : List (List Int)} {j : Nat} : ∀ {d : Nat}, (canS m plan S (j + 1 + d)).1[j]? = (canS m plan S (j + 1)).1[j]?
  | 0 => rfl
  | d + 1 => by
    rw [← canS_at (j := j) (d := d)]
    exact canS_ne (c := j + 1 + d) (by omega)
def rmAt (m : Model) (plan : List Int) (j : Nat) : Int := match plan[j]?, m.classes[j]? with
  | some o, some l => if o < 0 then -1 else match l[o.toNat]? with
    | some q => q.place.room
    | none => -1
  | _, _ => -1
section
variable {m : Model} {plan : List Int} {R : List Int} {S : List (List Int)}
theorem rm_neg {j : Nat} {o : Int} {l : List Opt} (ho : plan[j]? = some o) (hl : m.classes[j]? = some l) (h : o < 0) : rmAt m plan j = -1 := by
  unfold rmAt; rw [ho, hl]; dsimp only; rw [if_pos h]
theorem rm_pos {j o : Nat} {l : List Opt} {q : Opt} (ho : plan[j]? = some (o : Int)) (hl : m.classes[j]? = some l) (hq : l[o]? = some q) : rmAt m plan j = q.place.room := by
  unfold rmAt; rw [ho, hl]; dsimp only
  rw [if_neg (by omega), Int.toNat_natCast, hq]
theorem can_cases (hpl : isPlanP m plan) (ok : SetsOk m R S) (hR : ∀ x ∈ R, 0 ≤ x) {c : Nat} (hc : c < plan.length) (hI : CanI S (canS m plan S c).2) :
    (canS m plan S (c + 1) = canS m plan S c ∧ (∀ s ∈ S, rmAt m plan c ∉ s) ∧ (canS m plan S c).1[c]? = plan[c]?) ∨
    ∃ (o : Nat) (l : List Opt) (q : Opt) (s : List Int) (t : Int), plan[c]? = some (o : Int) ∧ m.classes[c]? = some l ∧ l[o]? = some q ∧ s ∈ S ∧ q.place.room ∈ s ∧ rmAt m plan c = q.place.room ∧ t ∈ s ∧
      CanI S (canS m plan S (c + 1)).2 ∧ toF (canS m plan S (c + 1)).2 q.place.room = some t ∧ (canS m plan S (c + 1)).1[c]? = some (imgI (imgO l o t)) ∧
      ((toF (canS m plan S c).2 q.place.room = some t ∧ (canS m plan S (c + 1)).2 = (canS m plan S c).2) ∨ (toF (canS m plan S c).2 q.place.room = none ∧ takenB (canS m plan S c).2 t = false ∧ (canS m plan S (c + 1)).2 = (canS m plan S c).2 ++ [(q.place.room, t)] ∧ t = (s.foldl (pickS (canS m plan S c).2 fun t => imgI (imgO l o t)) (-1, (o : Int))).1)) := by
  obtain ⟨o, ho⟩ := getE hc
  obtain ⟨l, hl⟩ := getE (l := m.classes) (i := c) (by have := hpl.1; omega)
  have hop := hpl.2 c hc o l ho hl
  have hinv := canS_inv (S := S) hpl (c := c) (by omega)
  have hnx := canS_next (S := S) ho hl
  by_cases h0 : o < 0
  · rw [if_pos h0] at hnx
    refine .inl ⟨hnx, fun s hs hr => ?_, hinv.2 c (Nat.le_refl _)⟩
    rw [rm_neg ho hl h0] at hr
    have := hR _ (ok.sub s hs _ hr); omega
  obtain ⟨o, rfl⟩ : ∃ n : Nat, o = n := ⟨o.toNat, by omega⟩
  obtain ⟨q, hq⟩ := getE (l := l) (i := o) (by omega)
  rw [if_neg h0, Int.toNat_natCast, hq] at hnx
  dsimp only at hnx
  have hrm := rm_pos ho hl hq
  have hoc : (canS m plan S c).1[c]? = some (o : Int) := by rw [hinv.2 c (Nat.le_refl _), ho]
  by_cases hs : ∃ s ∈ S, q.place.room ∈ s
  · obtain ⟨s, hs, hr⟩ := hs
    obtain ⟨h1, t, h2, h3, h4, h5⟩ := step_in (out := (canS m plan S c).1) (l := l) (o := o) (c := c) hI ok hR (by rw [hinv.1]; exact hc) hs hr
    rw [← hnx] at h1 h3 h4 h5
    refine .inr ⟨o, l, q, s, t, ho, hl, hq, hs, hr, hrm, h2, h1, h3, ?_, h5⟩
    rw [h4, List.getElem?_set_self (by rw [hinv.1]; exact hc)]
  · have hn : ∀ s ∈ S, q.place.room ∉ s := fun s h1 h2 => hs ⟨s, h1, h2⟩
    have := step_out (l := l) (c := c) hI hoc hn
    rw [this] at hnx
    exact .inl ⟨hnx, by rw [hrm]; exact hn, by rw [hoc, ho]⟩
theorem can_inv (hpl : isPlanP m plan) (ok : SetsOk m R S) (hR : ∀ x ∈ R, 0 ≤ x) : ∀ {c : Nat}, c ≤ plan.length → CanI S (canS m plan S c).2
  | 0, _ => CanI.nil
  | c + 1, hc => by
    have ih := can_inv hpl ok hR (c := c) (by omega)
    rcases can_cases hpl ok hR (by omega) ih with ⟨h, _⟩ | ⟨o, l, q, s, t, _, _, _, _, _, _, _, h, _⟩
    · rw [h]; exact ih
    · exact h
noncomputable def canL (m : Model) (plan : List Int) (S : List (List Int)) : List Int := (canS m plan S plan.length).1
theorem canL_at {c : Nat} (hc : c < plan.length) : (canL m plan S)[c]? = (canS m plan S (c + 1)).1[c]? := by
  unfold canL
  obtain ⟨d, hd⟩ : ∃ d, plan.length = c + 1 + d := ⟨plan.length - (c + 1), by omega⟩
  rw [hd]; exact canS_at
theorem canL_len (hpl : isPlanP m plan) : (canL m plan S).length = plan.length := (canS_inv hpl (Nat.le_refl _)).1
theorem canL_out (hpl : isPlanP m plan) (ok : SetsOk m R S) (hR : ∀ x ∈ R, 0 ≤ x) {c : Nat} (hc : c < plan.length) (h : ∀ s ∈ S, rmAt m plan c ∉ s) : (canL m plan S)[c]? = plan[c]? := by
  rw [canL_at hc]
  rcases can_cases hpl ok hR hc (can_inv hpl ok hR (by omega)) with ⟨h1, _, h3⟩ | ⟨o, l, q, s, t, _, _, _, hs, hr, hrm, _⟩
  · rw [h1, h3]
  · exact absurd (hrm ▸ hr) (h s hs)
def plI (s : List Int) (t : Int) : Int := if t ∈ s then ((s.idxOf t : Nat) : Int) else -1
def toA (E : List (Int × Int)) (s : List Int) : List Int := s.map fun x => match toF E x with
  | some t => plI s t
  | none => -1
def tkA (E : List (Int × Int)) (s : List Int) : List Bool := s.map (takenB E)
noncomputable def outR (m : Model) (plan : List Int) (S : List (List Int)) (k c : Nat) : List Int := (List.range plan.length).map fun j =>
  if pB ((∃ s ∈ S.take k, rmAt m plan j ∈ s) ∨ (j < c ∧ ∃ s, S[k]? = some s ∧ rmAt m plan j ∈ s)) then (canL m plan S).getD j 0 else plan.getD j 0
end
end Go.Proofs.YtihpjcmloecaaaaGreat.Cw
