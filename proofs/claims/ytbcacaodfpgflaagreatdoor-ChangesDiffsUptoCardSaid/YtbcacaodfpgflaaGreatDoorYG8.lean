/-
  Part 8 of the proof (P20, P21, YW, D1, D2, D4, YD, P10, P11, PL, L4, L5, L6, A0, A3, GU, GT, FGB): what later parts use. No conditions.
-/
import Derived.Test.YtbcacaodfpgflaaGreatDoorRows
import Derived.Lib.LaidTab
import Derived.Lib.TrailingZeros
import Derived.Stop.LaidErr
import Derived.MakeChecks
import Derived.Test.YtbcacaodfpgflaaGreatDoorYG7

/-
  Contracts: Join by the program.
-/
namespace Go.Proofs.YtbcacaodfpgflaaGreatDoor.Cw
open Go Go.Cw Go.Proofs
set_option linter.unusedVariables false
set_option maxRecDepth 100000
set_option maxHeartbeats 8000000

section
variable {P : Program} {T : Tab} {n nh : Nat} {a b : Code} {Q : Exit → Slots → Heap → Prop} {Γ : Slots} {H : Heap}
/-- As join_in, but only the named slots are kept. -/
theorem join_to {X : Type} (g : X → Slots) (hp : X → Heap) (cond : X → Prop)
    (ha : xCode P T n nh a (thenQ (fun Γ' H' => ∃ x, cond x ∧ Ghost n nh Γ' H' (g x) (hp x)) Q) Γ H ∧ Later (∀ x, cond x → forceH (hp x) fun H1 => xCode P T n nh b Q (g x) H1)) : xCode P T n nh (.seq a b) Q Γ H := by
  refine code_join (fun S => ∃ x, cond x ∧ S = ⟨g x, hp x⟩) ?_ ?_
  · have : (fun Γ' H' => ∃ x, cond x ∧ Ghost n nh Γ' H' (g x) (hp x)) = fun Γ' H' => ∃ S, (∃ x, cond x ∧ S = (⟨g x, hp x⟩ : ASt)) ∧ Ghost n nh Γ' H' S.sl S.hp := by
      funext Γ' H'
      exact propext ⟨fun ⟨x, h1, h2⟩ => ⟨_, ⟨x, h1, rfl⟩, h2⟩, fun ⟨S, ⟨x, h1, e⟩, h2⟩ => ⟨x, h1, by subst e; exact h2⟩⟩
    rw [← this]
    exact ha.1
  · rintro S ⟨x, hx, rfl⟩
    have := ha.2.go x hx
    rw [forceH_eq] at this
    exact this
end
theorem leq_j {V : List Chg} {E E' : Int} (hv : V = []) (he : E' = E) : Leq (.tup [.pv (.val (.slice none 0 0)), .pv (.val (.int .i64 E))]) (.tup [.pv (encChgs V), vint .i64 E']) := by
  subst hv; subst he
  exact ⟨ALe.tup ⟨ALe.pv PLe.nil, ALe.refl, trivial⟩⟩
theorem call_clsJ {c : List Chg} {n : Nat} {ty : TypeId} {X : List Str} {K : AV → Heap → Prop} (hc : c.length ≤ 1000) (hn : n = c.length) (hX : clsOf (c.map Chg.cls) = X) (hK : K (.pv (.sl 1 (X.map strRow))) [some ⟨ty, 3, true, .p (c.map Chg.row)⟩]) : vcFun Tryz.prog 28 [.ms 0 3 0 n, .pv (.val (.slice none 0 0))] [some ⟨ty, 3, false, .p (c.map Chg.row)⟩] K := by
  subst hn; subst hX
  have h := c_classes c [] hc (by simp) (Nat.zero_le _)
  have e : c.map Chg.cls ++ ([] : List (List Sess)).flatten.map Sess.cls = c.map Chg.cls := by simp
  rw [e] at h
  have hle : ALeL [.pv (.sl 3 (((c.map Chg.row).drop 0).take c.length)), .pv (.val (.slice none 0 0))] [.pv (encChgs c), .pv (encLs [])] := by
    refine ⟨?_, ALe.pv PLe.nil, trivial⟩
    rw [List.drop_zero, List.take_of_length_le (by simp)]
    exact ALe.refl
  refine call_frz (as0 := [.pv (.sl 3 (((c.map Chg.row).drop 0).take c.length)), .pv (.val (.slice none 0 0))]) rfl ?_ hle h ?_
  · refine ⟨?_, trivial⟩
    show 0 + c.length ≤ (c.map Chg.row).length
    simp
  · rintro r rfl
    exact hK
theorem call_clsN {c : List Chg} {X : List Str} {H : Heap} {K : AV → Heap → Prop} (hc : c.length ≤ 1000) (hX : clsOf (c.map Chg.cls) = X) (hK : K (.pv (.sl 1 (X.map strRow))) H) : vcFun Tryz.prog 28 [.pv (.sl 3 (c.map Chg.row)), .pv (.val (.slice none 0 0))] H K := by
  subst hX
  have h := c_classes c [] hc (by simp) (Nat.zero_le _)
  have e : c.map Chg.cls ++ ([] : List (List Sess)).flatten.map Sess.cls = c.map Chg.cls := by simp
  rw [e] at h
  have hle : ALeL [.pv (encChgs c), .pv (.val (.slice none 0 0))] [.pv (encChgs c), .pv (encLs [])] := ⟨ALe.refl, ALe.pv PLe.nil, trivial⟩
  refine call_frz (as0 := [.pv (encChgs c), .pv (.val (.slice none 0 0))]) rfl (by repeat' (first | trivial | refine And.intro ?_ ?_ | (show 0 + _ ≤ List.length _; simp))) hle h ?_
  rintro r rfl
  exact hK
theorem c_join0 (c d : List Chg) (hc : c.length ≤ 400) (hd : d.length ≤ 400) (hcl : ChgsL c) (hdl : ChgsL d) : PCall Tryz.prog 16 [.pv (encChgs c), .pv (encChgs d)] (fun r => Leq r (.tup [.pv (encChgs (joinV c d)), vint .i64 (joinE c d)])) := by
  have hoc := c_ord34 c hcl (by omega)
  have hod := c_ord34 d hdl (by omega)
  by_cases h1 : orderedP c
  · by_cases h2 : orderedP d
    · rw [pB_t h1] at hoc
      rw [pB_t h2] at hod
      refine acall_of tok mixed 95 rfl (fn := Tryz.f16) (c := Tryz.f16.body.getD .skip) (by kernel_rfl) (by kernel_rfl) (by kernel_rfl) rfl 0 rfl ?_
      repeat' (first | refine o1 ?_ | refine o2 ?_ | refine k1 ?_ | refine k2 ?_ | refine k3 ?_ | refine k4 ?_ | refine k6 ?_ | refine k7 ?_ | refine k8 ?_ | refine And.intro ?_ ?_ | exact trivial | refine o3 ?_ | refine o4 ?_ | refine o5 ?_ | refine o6 ?_ | refine k5 ?_ | (intro h; first | exact Bool.noConfusion h | exact nz _ h | exact nl h | (simp at h; done) | (simp at h; first | (exfalso; omega) | skip) | skip) | (change retOk _ _ _ _; refine ret_pure rfl trivial ?_) | exact (rfl : allOne _ = true) | (refine (?_ : (0 : Int) ≤ _); omega) | (refine (?_ : _ ≠ _); omega) | (refine (?_ : srcLen _ = rowsLen _); rfl) | exact Nat.le_of_ble_eq_true rfl | exact (by kernel_rfl : drawOk _ _ = true) | refine eqv_len_map ?_ | refine eqv_size ?_ | refine eqv_put (eqv_ck ?_) | refine eqv_zero ?_ | refine eqv_wrap (by omega) (by omega) ?_ | refine eqv_u64 (by omega) (by omega) ?_ | refine eqv_u8 (by omega) (by omega) ?_ | refine eqv_to _ (set_map rfl rfl) ?_ | refine ⟨_, _, (by first | rfl | assumption), at_map (by assumption), ?_⟩ | refine ⟨_, _, (by first | rfl | assumption), (by assumption), ?_⟩ | refine ⟨_, at_map (by assumption), (by decide), ?_⟩ | refine ⟨_, at_map (by assumption), ?_⟩ | (refine (?_ : _ ≤ 140737488355328); simp [rowsLen] <;> omega) | (refine (?_ : _ ≤ 9223372036854775807); simp [rowsLen] <;> omega) | (refine (?_ : _ = rowsLen _); simp [rowsLen] <;> omega) | refine eqv_to _ (app_row rfl) (eqv_to _ app_len ?_) | refine eqv_to _ (app_first rfl) (eqv_to 1 rfl ?_) | refine idx_sl (at_map (by assumption)) (by omega) ?_ | refine idx_ms _ (by first | rfl | assumption) (by first | assumption | omega) ?_ | (change vcFun _ _ _ _ _; refine call_eq rfl (by repeat' (first | trivial | refine And.intro ?_ ?_ | (show 0 + _ ≤ List.length _; simp))) ALeL.refl (hoc) rfl ?_) | (change vcFun _ _ _ _ _; refine call_eq rfl (by repeat' (first | trivial | refine And.intro ?_ ?_ | (show 0 + _ ≤ List.length _; simp))) ALeL.refl (hod) rfl ?_) | fail)
      refine loop_at (fun i : Nat => [(27, vint .i64 i)]) (fun _ => []) (fun i => i ≤ c.length ∧ goodTo c d i) (fun i => c.length - i) 0 ⟨Nat.zero_le _, good_zero⟩ (by repeat' (first | exact trivial | exact rfl | exact ⟨_, rfl, ALe.refl⟩ | refine And.intro ?_ ?_)) (by repeat' (first | exact trivial | exact rfl | exact ⟨_, rfl, ALe.refl⟩ | refine And.intro ?_ ?_)) ?_
      intro i ⟨hi, hall⟩
      rcases Nat.lt_or_ge i c.length with hlt | hge
      · obtain ⟨x, hx⟩ := getE hlt
        rcases hf : findC d x.cls with _ | y
        · repeat' (first | ((change vcFun _ _ _ _ _; refine call_find (by omega) hf ?_)) | refine o1 ?_ | refine o2 ?_ | refine k1 ?_ | refine k2 ?_ | refine k3 ?_ | refine k4 ?_ | refine k6 ?_ | refine k7 ?_ | refine k8 ?_ | refine And.intro ?_ ?_ | exact trivial | refine o3 ?_ | refine o4 ?_ | refine o5 ?_ | refine o6 ?_ | refine k5 ?_ | (intro h; first | exact Bool.noConfusion h | exact nz _ h | exact nl h | (simp at h; done) | (simp at h; first | (exfalso; omega) | skip) | skip) | (change retOk _ _ _ _; refine ret_pure rfl trivial ?_) | exact (rfl : allOne _ = true) | (refine (?_ : (0 : Int) ≤ _); omega) | (refine (?_ : _ ≠ _); omega) | (refine (?_ : srcLen _ = rowsLen _); rfl) | exact Nat.le_of_ble_eq_true rfl | exact (by kernel_rfl : drawOk _ _ = true) | refine eqv_len_map ?_ | refine eqv_size ?_ | refine eqv_put (eqv_ck ?_) | refine eqv_zero ?_ | refine eqv_wrap (by omega) (by omega) ?_ | refine eqv_u64 (by omega) (by omega) ?_ | refine eqv_u8 (by omega) (by omega) ?_ | refine eqv_to _ (set_map rfl rfl) ?_ | refine ⟨_, _, (by first | rfl | assumption), at_map (by assumption), ?_⟩ | refine ⟨_, _, (by first | rfl | assumption), (by assumption), ?_⟩ | refine ⟨_, at_map (by assumption), (by decide), ?_⟩ | refine ⟨_, at_map (by assumption), ?_⟩ | (refine (?_ : _ ≤ 140737488355328); simp [rowsLen] <;> omega) | (refine (?_ : _ ≤ 9223372036854775807); simp [rowsLen] <;> omega) | (refine (?_ : _ = rowsLen _); simp [rowsLen] <;> omega) | refine eqv_to _ (app_row rfl) (eqv_to _ app_len ?_) | refine eqv_to _ (app_first rfl) (eqv_to 1 rfl ?_) | refine idx_sl (at_map (by assumption)) (by omega) ?_ | refine idx_ms _ (by first | rfl | assumption) (by first | assumption | omega) ?_ | fail)
          exact ⟨i + 1, ⟨by omega, good_next hall hx fun y hy => by rw [hf] at hy; cases hy⟩, by omega, back [] rfl rfl trivial (by repeat' (first | exact trivial | exact rfl | exact ⟨_, rfl, ALe.refl⟩ | refine And.intro ?_ ?_))⟩
        · have heq := c_equal x.aft y.bef (hcl x (List.mem_of_getElem? hx)).2 (hdl y (find_mem hf).1).1
          by_cases hb : x.aft = y.bef
          · rw [pB_t hb] at heq
            repeat' (first | ((change vcFun _ _ _ _ _; refine call_find (by omega) hf ?_)) | refine o1 ?_ | refine o2 ?_ | refine k1 ?_ | refine k2 ?_ | refine k3 ?_ | refine k4 ?_ | refine k6 ?_ | refine k7 ?_ | refine k8 ?_ | refine And.intro ?_ ?_ | exact trivial | refine o3 ?_ | refine o4 ?_ | refine o5 ?_ | refine o6 ?_ | refine k5 ?_ | (intro h; first | exact Bool.noConfusion h | exact nz _ h | exact nl h | (simp at h; done) | (simp at h; first | (exfalso; omega) | skip) | skip) | (change retOk _ _ _ _; refine ret_pure rfl trivial ?_) | exact (rfl : allOne _ = true) | (refine (?_ : (0 : Int) ≤ _); omega) | (refine (?_ : _ ≠ _); omega) | (refine (?_ : srcLen _ = rowsLen _); rfl) | exact Nat.le_of_ble_eq_true rfl | exact (by kernel_rfl : drawOk _ _ = true) | refine eqv_len_map ?_ | refine eqv_size ?_ | refine eqv_put (eqv_ck ?_) | refine eqv_zero ?_ | refine eqv_wrap (by omega) (by omega) ?_ | refine eqv_u64 (by omega) (by omega) ?_ | refine eqv_u8 (by omega) (by omega) ?_ | refine eqv_to _ (set_map rfl rfl) ?_ | refine ⟨_, _, (by first | rfl | assumption), at_map (by assumption), ?_⟩ | refine ⟨_, _, (by first | rfl | assumption), (by assumption), ?_⟩ | refine ⟨_, at_map (by assumption), (by decide), ?_⟩ | refine ⟨_, at_map (by assumption), ?_⟩ | (refine (?_ : _ ≤ 140737488355328); simp [rowsLen] <;> omega) | (refine (?_ : _ ≤ 9223372036854775807); simp [rowsLen] <;> omega) | (refine (?_ : _ = rowsLen _); simp [rowsLen] <;> omega) | refine eqv_to _ (app_row rfl) (eqv_to _ app_len ?_) | refine eqv_to _ (app_first rfl) (eqv_to 1 rfl ?_) | refine idx_sl (at_map (by assumption)) (by omega) ?_ | refine idx_ms _ (by first | rfl | assumption) (by first | assumption | omega) ?_ | (change vcFun _ _ _ _ _; refine call_eq rfl (by repeat' (first | trivial | refine And.intro ?_ ?_ | (show 0 + _ ≤ List.length _; simp))) ALeL.refl (heq) rfl ?_) | fail)
            exact ⟨i + 1, ⟨by omega, good_next hall hx fun z hz => by rw [hf] at hz; cases hz; exact hb⟩, by omega, back [] rfl rfl trivial (by repeat' (first | exact trivial | exact rfl | exact ⟨_, rfl, ALe.refl⟩ | refine And.intro ?_ ?_))⟩
          · rw [pB_f hb] at heq
            obtain ⟨e1, e2⟩ := jn2 h1 h2 (good_bad hx hf hb)
            repeat' (first | ((change vcFun _ _ _ _ _; refine call_find (by omega) hf ?_)) | refine o1 ?_ | refine o2 ?_ | refine k1 ?_ | refine k2 ?_ | refine k3 ?_ | refine k4 ?_ | refine k6 ?_ | refine k7 ?_ | refine k8 ?_ | refine And.intro ?_ ?_ | exact trivial | refine o3 ?_ | refine o4 ?_ | refine o5 ?_ | refine o6 ?_ | refine k5 ?_ | (intro h; first | exact Bool.noConfusion h | exact nz _ h | exact nl h | (simp at h; done) | (simp at h; first | (exfalso; omega) | skip) | skip) | (change retOk _ _ _ _; refine ret_pure rfl trivial ?_) | exact (rfl : allOne _ = true) | (refine (?_ : (0 : Int) ≤ _); omega) | (refine (?_ : _ ≠ _); omega) | (refine (?_ : srcLen _ = rowsLen _); rfl) | exact Nat.le_of_ble_eq_true rfl | exact (by kernel_rfl : drawOk _ _ = true) | refine eqv_len_map ?_ | refine eqv_size ?_ | refine eqv_put (eqv_ck ?_) | refine eqv_zero ?_ | refine eqv_wrap (by omega) (by omega) ?_ | refine eqv_u64 (by omega) (by omega) ?_ | refine eqv_u8 (by omega) (by omega) ?_ | refine eqv_to _ (set_map rfl rfl) ?_ | refine ⟨_, _, (by first | rfl | assumption), at_map (by assumption), ?_⟩ | refine ⟨_, _, (by first | rfl | assumption), (by assumption), ?_⟩ | refine ⟨_, at_map (by assumption), (by decide), ?_⟩ | refine ⟨_, at_map (by assumption), ?_⟩ | (refine (?_ : _ ≤ 140737488355328); simp [rowsLen] <;> omega) | (refine (?_ : _ ≤ 9223372036854775807); simp [rowsLen] <;> omega) | (refine (?_ : _ = rowsLen _); simp [rowsLen] <;> omega) | refine eqv_to _ (app_row rfl) (eqv_to _ app_len ?_) | refine eqv_to _ (app_first rfl) (eqv_to 1 rfl ?_) | refine idx_sl (at_map (by assumption)) (by omega) ?_ | refine idx_ms _ (by first | rfl | assumption) (by first | assumption | omega) ?_ | (change vcFun _ _ _ _ _; refine call_eq rfl (by repeat' (first | trivial | refine And.intro ?_ ?_ | (show 0 + _ ≤ List.length _; simp))) ALeL.refl (heq) rfl ?_) | fail)
            exact leq_j e2 e1
      · obtain ⟨e1, e2⟩ := jn3 h1 h2 (good_all fun j hj => hall j (by omega))
        rw [e1, e2]
        have hKc : (clsOf (c.map Chg.cls ++ d.map Chg.cls)).length ≤ 800 := by
          have := clsOf_len (L := c.map Chg.cls ++ d.map Chg.cls)
          rw [List.length_append, List.length_map, List.length_map] at this; omega
        have hclip := c_clip c (by omega)
        have hmap : c.map Chg.row ++ d.map Chg.row = (c ++ d).map Chg.row := by rw [List.map_append]
        have hcd : (c ++ d).length ≤ 800 := by rw [List.length_append]; omega
        obtain ⟨K, hK⟩ : ∃ K, clsOf (c.map Chg.cls ++ d.map Chg.cls) = K := ⟨_, rfl⟩
        have hjl : joinL c d = joinK c d K := by rw [← hK]; rfl
        have hKd : clsOf ((c ++ d).map Chg.cls) = K := by rw [List.map_append, hK]
        rw [hK] at hKc
        rw [hjl]
        have hKn : (d.map Chg.row).length = 0 → clsOf (c.map Chg.cls) = K := fun e => by
          rw [List.length_map] at e
          rw [← hKd, List.eq_nil_of_length_eq_zero e, List.append_nil]
        repeat' (first | (refine join_to (a := .region 11 _ _) (fun _ : Unit => [(0, .pv (encChgs c)), (1, .pv (encChgs d)), (10, nilA), (52, .pv (.sl 1 (K.map strRow))), (53, vint .i64 K.length), (54, vint .i64 (0 : Nat))]) (fun _ => []) (fun _ => True) ?_) | ((change vcFun _ _ _ _ _; refine call_frz rfl (by repeat' (first | trivial | refine And.intro ?_ ?_ | (show 0 + _ ≤ List.length _; simp))) ALeL.refl hclip ?_; rintro _ rfl)) | (refine eqv_to _ (congrArg Rows.p hmap) (eqv_to (c ++ d).length (by simp [rowsLen]) ?_)) | ((change vcFun _ _ _ _ _; refine call_clsJ (by omega) rfl hKd ?_)) | ((change vcFun _ _ _ _ _; refine call_clsN (by omega) (hKn (by assumption)) ?_)) | refine o1 ?_ | refine o2 ?_ | refine k1 ?_ | refine k2 ?_ | refine k3 ?_ | refine k4 ?_ | refine k6 ?_ | refine k7 ?_ | refine k8 ?_ | refine And.intro ?_ ?_ | exact trivial | refine o3 ?_ | refine o4 ?_ | refine o5 ?_ | refine o6 ?_ | refine k5 ?_ | (intro h; first | exact Bool.noConfusion h | exact nz _ h | exact nl h | (simp at h; done) | (simp at h; first | (exfalso; omega) | skip) | skip) | (change retOk _ _ _ _; refine ret_pure rfl trivial ?_) | exact (rfl : allOne _ = true) | (refine (?_ : (0 : Int) ≤ _); omega) | (refine (?_ : _ ≠ _); omega) | (refine (?_ : srcLen _ = rowsLen _); rfl) | exact Nat.le_of_ble_eq_true rfl | exact (by kernel_rfl : drawOk _ _ = true) | refine eqv_len_map ?_ | refine eqv_size ?_ | refine eqv_put (eqv_ck ?_) | refine eqv_zero ?_ | refine eqv_wrap (by omega) (by omega) ?_ | refine eqv_u64 (by omega) (by omega) ?_ | refine eqv_u8 (by omega) (by omega) ?_ | refine eqv_to _ (set_map rfl rfl) ?_ | refine ⟨_, _, (by first | rfl | assumption), at_map (by assumption), ?_⟩ | refine ⟨_, _, (by first | rfl | assumption), (by assumption), ?_⟩ | refine ⟨_, at_map (by assumption), (by decide), ?_⟩ | refine ⟨_, at_map (by assumption), ?_⟩ | (refine (?_ : _ ≤ 140737488355328); simp [rowsLen] <;> omega) | (refine (?_ : _ ≤ 9223372036854775807); simp [rowsLen] <;> omega) | (refine (?_ : _ = rowsLen _); simp [rowsLen] <;> omega) | refine eqv_to _ (app_row rfl) (eqv_to _ app_len ?_) | refine eqv_to _ (app_first rfl) (eqv_to 1 rfl ?_) | refine idx_sl (at_map (by assumption)) (by omega) ?_ | refine idx_ms _ (by first | rfl | assumption) (by first | assumption | omega) ?_ | fail)
        · exact ⟨(), trivial, back [] rfl rfl trivial (by repeat' (first | exact trivial | exact rfl | exact ⟨_, rfl, ALe.refl⟩ | refine And.intro ?_ ?_))⟩
        · exact ⟨(), trivial, back [] rfl rfl trivial (by repeat' (first | exact trivial | exact rfl | exact ⟨_, rfl, ALe.refl⟩ | refine And.intro ?_ ?_))⟩
        refine ⟨fun _ _ => ?_⟩
        repeat' (first | refine o1 ?_ | refine o2 ?_ | refine k1 ?_ | refine k2 ?_ | refine k3 ?_ | refine k4 ?_ | refine k6 ?_ | refine k7 ?_ | refine k8 ?_ | refine And.intro ?_ ?_ | exact trivial | refine o3 ?_ | refine o4 ?_ | refine o5 ?_ | refine o6 ?_ | refine k5 ?_ | (intro h; first | exact Bool.noConfusion h | exact nz _ h | exact nl h | (simp at h; done) | (simp at h; first | (exfalso; omega) | skip) | skip) | (change retOk _ _ _ _; refine ret_pure rfl trivial ?_) | exact (rfl : allOne _ = true) | (refine (?_ : (0 : Int) ≤ _); omega) | (refine (?_ : _ ≠ _); omega) | (refine (?_ : srcLen _ = rowsLen _); rfl) | exact Nat.le_of_ble_eq_true rfl | exact (by kernel_rfl : drawOk _ _ = true) | refine eqv_len_map ?_ | refine eqv_size ?_ | refine eqv_put (eqv_ck ?_) | refine eqv_zero ?_ | refine eqv_wrap (by omega) (by omega) ?_ | refine eqv_u64 (by omega) (by omega) ?_ | refine eqv_u8 (by omega) (by omega) ?_ | refine eqv_to _ (set_map rfl rfl) ?_ | refine ⟨_, _, (by first | rfl | assumption), at_map (by assumption), ?_⟩ | refine ⟨_, _, (by first | rfl | assumption), (by assumption), ?_⟩ | refine ⟨_, at_map (by assumption), (by decide), ?_⟩ | refine ⟨_, at_map (by assumption), ?_⟩ | (refine (?_ : _ ≤ 140737488355328); simp [rowsLen] <;> omega) | (refine (?_ : _ ≤ 9223372036854775807); simp [rowsLen] <;> omega) | (refine (?_ : _ = rowsLen _); simp [rowsLen] <;> omega) | refine eqv_to _ (app_row rfl) (eqv_to _ app_len ?_) | refine eqv_to _ (app_first rfl) (eqv_to 1 rfl ?_) | refine idx_sl (at_map (by assumption)) (by omega) ?_ | refine idx_ms _ (by first | rfl | assumption) (by first | assumption | omega) ?_ | fail)
        refine loop_for (fun i : Nat => [(0, .pv (encChgs c)), (1, .pv (encChgs d)), (10, slP 0 3 ((joinK c d (K.take i)).map Chg.row)), (52, .pv (.sl 1 (K.map strRow))), (53, vint .i64 K.length), (54, vint .i64 i)]) (fun i => [obP 54 3 ((joinK c d (K.take i)).map Chg.row)]) (fun i => i ≤ K.length) (fun i => K.length - i) 0 (Nat.zero_le _) ?_ ?_
        · exact back [0] rfl rfl (by repeat' (first | exact trivial | exact rfl | exact ren_get rfl | refine kept_ob rfl ?_ | exact ⟨_, rfl, ALe.refl⟩ | refine And.intro ?_ ?_)) (by repeat' (first | exact trivial | exact rfl | exact ren_get rfl | refine kept_ob rfl ?_ | exact ⟨_, rfl, ALe.refl⟩ | refine And.intro ?_ ?_))
        intro i hi
        rcases Nat.lt_or_ge i K.length with hlt | hge
        · obtain ⟨k, hk⟩ := getE hlt
          have hkr : (K.map strRow)[i]? = some [es k] := by rw [List.getElem?_map, hk]; rfl
          have hjn := Nat.le_trans (joinK_len (c := c) (d := d) (K := K.take i)) (List.length_take_le ..)
          have hjt := joinK_t (c := c) (d := d) hk
          have hjf := joinK_f (c := c) (d := d) hk
          have hfc := fun x (h : findC c k = some x) => hcl x (find_mem h).1
          have hfd := fun x (h : findC d k = some x) => hdl x (find_mem h).1
          generalize joinK c d (K.take i) = D at *
          have hb1 : ((D.map Chg.row).length + 1) * 64 ≤ 140737488355328 := by rw [List.length_map]; omega
          have hb2 : (D.map Chg.row).length + 1 ≤ 9223372036854775807 := by rw [List.length_map]; omega
          rcases hf1 : findC c k with _ | x <;> rcases hf2 : findC d k with _ | y
          · have hX : joinX c d k = ⟨k, ([] : List Sess), ([] : List Sess)⟩ := by unfold joinX; rw [hf1, hf2]
            rw [hX] at hjt hjf
            have heq := c_equal ([] : List Sess) ([] : List Sess) (by decide) (by decide)
            have hc1 := c_cloneS ([] : List Sess) (by decide)
            have hc2 := c_cloneS ([] : List Sess) (by decide)
            by_cases hb : ([] : List Sess) = ([] : List Sess)
            · rw [pB_t hb] at heq
              have hjt := hjt hb
              repeat' (first | (refine fv_sl ?_) | (refine fh_ob ?_) | (refine ⟨_, hkr, ?_⟩) | (refine ⟨i, rfl, hlt, ?_⟩) | ((change vcFun _ _ _ _ _; refine call_find (by omega) hf1 ?_)) | ((change vcFun _ _ _ _ _; refine call_find (by omega) hf2 ?_)) | refine o1 ?_ | refine o2 ?_ | refine k1 ?_ | refine k2 ?_ | refine k3 ?_ | refine k4 ?_ | refine k6 ?_ | refine k7 ?_ | refine k8 ?_ | refine And.intro ?_ ?_ | exact trivial | refine o3 ?_ | refine o4 ?_ | refine o5 ?_ | refine o6 ?_ | refine k5 ?_ | (intro h; first | exact Bool.noConfusion h | exact nz _ h | exact nl h | (simp at h; done) | (simp at h; first | (exfalso; omega) | skip) | skip) | (change retOk _ _ _ _; refine ret_pure rfl trivial ?_) | exact (rfl : allOne _ = true) | (refine (?_ : (0 : Int) ≤ _); omega) | (refine (?_ : _ ≠ _); omega) | (refine (?_ : srcLen _ = rowsLen _); rfl) | exact Nat.le_of_ble_eq_true rfl | exact (by kernel_rfl : drawOk _ _ = true) | refine eqv_len_map ?_ | refine eqv_size ?_ | refine eqv_put (eqv_ck ?_) | refine eqv_zero ?_ | refine eqv_wrap (by omega) (by omega) ?_ | refine eqv_u64 (by omega) (by omega) ?_ | refine eqv_u8 (by omega) (by omega) ?_ | refine eqv_to _ (set_map rfl rfl) ?_ | refine ⟨_, _, (by first | rfl | assumption), at_map (by assumption), ?_⟩ | refine ⟨_, _, (by first | rfl | assumption), (by assumption), ?_⟩ | refine ⟨_, at_map (by assumption), (by decide), ?_⟩ | refine ⟨_, at_map (by assumption), ?_⟩ | (refine (?_ : _ ≤ 140737488355328); simp [rowsLen] <;> omega) | (refine (?_ : _ ≤ 9223372036854775807); simp [rowsLen] <;> omega) | (refine (?_ : _ = rowsLen _); simp [rowsLen] <;> omega) | refine eqv_to _ (app_row rfl) (eqv_to _ app_len ?_) | refine eqv_to _ (app_first rfl) (eqv_to 1 rfl ?_) | refine idx_sl (at_map (by assumption)) (by omega) ?_ | refine idx_ms _ (by first | rfl | assumption) (by first | assumption | omega) ?_ | (change vcFun _ _ _ _ _; refine call_eq rfl (by repeat' (first | trivial | refine And.intro ?_ ?_ | (show 0 + _ ≤ List.length _; simp))) ALeL.refl (heq) rfl ?_) | fail)
              refine ⟨i + 1, hlt, by omega, ?_⟩
              rw [hjt]
              exact back [0] rfl rfl (by repeat' (first | exact trivial | exact rfl | exact ren_get rfl | refine kept_ob rfl ?_ | exact ⟨_, rfl, ALe.refl⟩ | refine And.intro ?_ ?_)) (by repeat' (first | exact trivial | exact rfl | exact ren_get rfl | refine kept_ob rfl ?_ | exact ⟨_, rfl, ALe.refl⟩ | (refine slot_eq rfl (congrArg (vint .i64) ?_); omega) | refine And.intro ?_ ?_))
            · rw [pB_f hb] at heq
              have hjf := hjf hb
              repeat' (first | (refine fv_sl ?_) | (refine fh_ob ?_) | (refine ⟨_, hkr, ?_⟩) | (refine ⟨i, rfl, hlt, ?_⟩) | ((change vcFun _ _ _ _ _; refine call_find (by omega) hf1 ?_)) | ((change vcFun _ _ _ _ _; refine call_find (by omega) hf2 ?_)) | ((refine o_appD rfl rfl rfl rfl rfl rfl rfl rfl rfl rfl rfl hb1 hb2 ?_)) | refine o1 ?_ | refine o2 ?_ | refine k1 ?_ | refine k2 ?_ | refine k3 ?_ | refine k4 ?_ | refine k6 ?_ | refine k7 ?_ | refine k8 ?_ | refine And.intro ?_ ?_ | exact trivial | refine o3 ?_ | refine o4 ?_ | refine o5 ?_ | refine o6 ?_ | refine k5 ?_ | (intro h; first | exact Bool.noConfusion h | exact nz _ h | exact nl h | (simp at h; done) | (simp at h; first | (exfalso; omega) | skip) | skip) | (change retOk _ _ _ _; refine ret_pure rfl trivial ?_) | exact (rfl : allOne _ = true) | (refine (?_ : (0 : Int) ≤ _); omega) | (refine (?_ : _ ≠ _); omega) | (refine (?_ : srcLen _ = rowsLen _); rfl) | exact Nat.le_of_ble_eq_true rfl | exact (by kernel_rfl : drawOk _ _ = true) | refine eqv_len_map ?_ | refine eqv_size ?_ | refine eqv_put (eqv_ck ?_) | refine eqv_zero ?_ | refine eqv_wrap (by omega) (by omega) ?_ | refine eqv_u64 (by omega) (by omega) ?_ | refine eqv_u8 (by omega) (by omega) ?_ | refine eqv_to _ (set_map rfl rfl) ?_ | refine ⟨_, _, (by first | rfl | assumption), at_map (by assumption), ?_⟩ | refine ⟨_, _, (by first | rfl | assumption), (by assumption), ?_⟩ | refine ⟨_, at_map (by assumption), (by decide), ?_⟩ | refine ⟨_, at_map (by assumption), ?_⟩ | (refine (?_ : _ ≤ 140737488355328); simp [rowsLen] <;> omega) | (refine (?_ : _ ≤ 9223372036854775807); simp [rowsLen] <;> omega) | (refine (?_ : _ = rowsLen _); simp [rowsLen] <;> omega) | refine eqv_to _ (app_row rfl) (eqv_to _ app_len ?_) | refine eqv_to _ (app_first rfl) (eqv_to 1 rfl ?_) | refine idx_sl (at_map (by assumption)) (by omega) ?_ | refine idx_ms _ (by first | rfl | assumption) (by first | assumption | omega) ?_ | (change vcFun _ _ _ _ _; refine call_eq rfl (by repeat' (first | trivial | refine And.intro ?_ ?_ | (show 0 + _ ≤ List.length _; simp))) ALeL.refl (heq) rfl ?_) | (change vcFunD _ _ _ _ _; refine callD_eq rfl (by repeat' (first | trivial | refine And.intro ?_ ?_ | (show 0 + _ ≤ List.length _; simp))) ALeL.refl (hc1) rfl ?_) | (change vcFunD _ _ _ _ _; refine callD_eq rfl (by repeat' (first | trivial | refine And.intro ?_ ?_ | (show 0 + _ ≤ List.length _; simp))) ALeL.refl (hc2) rfl ?_) | fail)
              all_goals
                refine ⟨i + 1, hlt, by omega, ?_⟩
                rw [hjf, map_snoc, sl_app, ob_app]
                exact back [4] rfl rfl (by repeat' (first | exact trivial | exact rfl | exact ren_get rfl | refine kept_ob rfl ?_ | exact ⟨_, rfl, ALe.refl⟩ | refine And.intro ?_ ?_)) (by repeat' (first | exact trivial | exact rfl | exact ren_get rfl | refine kept_ob rfl ?_ | exact ⟨_, rfl, ALe.refl⟩ | (refine slot_eq rfl (congrArg (vint .i64) ?_); omega) | refine And.intro ?_ ?_))
          · have hX : joinX c d k = ⟨k, y.bef, y.aft⟩ := by unfold joinX; rw [hf1, hf2]
            rw [hX] at hjt hjf
            have heq := c_equal y.bef y.aft (hfd y hf2).1 (hfd y hf2).2
            have hc1 := c_cloneS y.bef (hfd y hf2).1
            have hc2 := c_cloneS y.aft (hfd y hf2).2
            by_cases hb : y.bef = y.aft
            · rw [pB_t hb] at heq
              have hjt := hjt hb
              repeat' (first | (refine fv_sl ?_) | (refine fh_ob ?_) | (refine ⟨_, hkr, ?_⟩) | (refine ⟨i, rfl, hlt, ?_⟩) | ((change vcFun _ _ _ _ _; refine call_find (by omega) hf1 ?_)) | ((change vcFun _ _ _ _ _; refine call_find (by omega) hf2 ?_)) | refine o1 ?_ | refine o2 ?_ | refine k1 ?_ | refine k2 ?_ | refine k3 ?_ | refine k4 ?_ | refine k6 ?_ | refine k7 ?_ | refine k8 ?_ | refine And.intro ?_ ?_ | exact trivial | refine o3 ?_ | refine o4 ?_ | refine o5 ?_ | refine o6 ?_ | refine k5 ?_ | (intro h; first | exact Bool.noConfusion h | exact nz _ h | exact nl h | (simp at h; done) | (simp at h; first | (exfalso; omega) | skip) | skip) | (change retOk _ _ _ _; refine ret_pure rfl trivial ?_) | exact (rfl : allOne _ = true) | (refine (?_ : (0 : Int) ≤ _); omega) | (refine (?_ : _ ≠ _); omega) | (refine (?_ : srcLen _ = rowsLen _); rfl) | exact Nat.le_of_ble_eq_true rfl | exact (by kernel_rfl : drawOk _ _ = true) | refine eqv_len_map ?_ | refine eqv_size ?_ | refine eqv_put (eqv_ck ?_) | refine eqv_zero ?_ | refine eqv_wrap (by omega) (by omega) ?_ | refine eqv_u64 (by omega) (by omega) ?_ | refine eqv_u8 (by omega) (by omega) ?_ | refine eqv_to _ (set_map rfl rfl) ?_ | refine ⟨_, _, (by first | rfl | assumption), at_map (by assumption), ?_⟩ | refine ⟨_, _, (by first | rfl | assumption), (by assumption), ?_⟩ | refine ⟨_, at_map (by assumption), (by decide), ?_⟩ | refine ⟨_, at_map (by assumption), ?_⟩ | (refine (?_ : _ ≤ 140737488355328); simp [rowsLen] <;> omega) | (refine (?_ : _ ≤ 9223372036854775807); simp [rowsLen] <;> omega) | (refine (?_ : _ = rowsLen _); simp [rowsLen] <;> omega) | refine eqv_to _ (app_row rfl) (eqv_to _ app_len ?_) | refine eqv_to _ (app_first rfl) (eqv_to 1 rfl ?_) | refine idx_sl (at_map (by assumption)) (by omega) ?_ | refine idx_ms _ (by first | rfl | assumption) (by first | assumption | omega) ?_ | (change vcFun _ _ _ _ _; refine call_eq rfl (by repeat' (first | trivial | refine And.intro ?_ ?_ | (show 0 + _ ≤ List.length _; simp))) ALeL.refl (heq) rfl ?_) | fail)
              refine ⟨i + 1, hlt, by omega, ?_⟩
              rw [hjt]
              exact back [0] rfl rfl (by repeat' (first | exact trivial | exact rfl | exact ren_get rfl | refine kept_ob rfl ?_ | exact ⟨_, rfl, ALe.refl⟩ | refine And.intro ?_ ?_)) (by repeat' (first | exact trivial | exact rfl | exact ren_get rfl | refine kept_ob rfl ?_ | exact ⟨_, rfl, ALe.refl⟩ | (refine slot_eq rfl (congrArg (vint .i64) ?_); omega) | refine And.intro ?_ ?_))
            · rw [pB_f hb] at heq
              have hjf := hjf hb
              repeat' (first | (refine fv_sl ?_) | (refine fh_ob ?_) | (refine ⟨_, hkr, ?_⟩) | (refine ⟨i, rfl, hlt, ?_⟩) | ((change vcFun _ _ _ _ _; refine call_find (by omega) hf1 ?_)) | ((change vcFun _ _ _ _ _; refine call_find (by omega) hf2 ?_)) | ((refine o_appD rfl rfl rfl rfl rfl rfl rfl rfl rfl rfl rfl hb1 hb2 ?_)) | refine o1 ?_ | refine o2 ?_ | refine k1 ?_ | refine k2 ?_ | refine k3 ?_ | refine k4 ?_ | refine k6 ?_ | refine k7 ?_ | refine k8 ?_ | refine And.intro ?_ ?_ | exact trivial | refine o3 ?_ | refine o4 ?_ | refine o5 ?_ | refine o6 ?_ | refine k5 ?_ | (intro h; first | exact Bool.noConfusion h | exact nz _ h | exact nl h | (simp at h; done) | (simp at h; first | (exfalso; omega) | skip) | skip) | (change retOk _ _ _ _; refine ret_pure rfl trivial ?_) | exact (rfl : allOne _ = true) | (refine (?_ : (0 : Int) ≤ _); omega) | (refine (?_ : _ ≠ _); omega) | (refine (?_ : srcLen _ = rowsLen _); rfl) | exact Nat.le_of_ble_eq_true rfl | exact (by kernel_rfl : drawOk _ _ = true) | refine eqv_len_map ?_ | refine eqv_size ?_ | refine eqv_put (eqv_ck ?_) | refine eqv_zero ?_ | refine eqv_wrap (by omega) (by omega) ?_ | refine eqv_u64 (by omega) (by omega) ?_ | refine eqv_u8 (by omega) (by omega) ?_ | refine eqv_to _ (set_map rfl rfl) ?_ | refine ⟨_, _, (by first | rfl | assumption), at_map (by assumption), ?_⟩ | refine ⟨_, _, (by first | rfl | assumption), (by assumption), ?_⟩ | refine ⟨_, at_map (by assumption), (by decide), ?_⟩ | refine ⟨_, at_map (by assumption), ?_⟩ | (refine (?_ : _ ≤ 140737488355328); simp [rowsLen] <;> omega) | (refine (?_ : _ ≤ 9223372036854775807); simp [rowsLen] <;> omega) | (refine (?_ : _ = rowsLen _); simp [rowsLen] <;> omega) | refine eqv_to _ (app_row rfl) (eqv_to _ app_len ?_) | refine eqv_to _ (app_first rfl) (eqv_to 1 rfl ?_) | refine idx_sl (at_map (by assumption)) (by omega) ?_ | refine idx_ms _ (by first | rfl | assumption) (by first | assumption | omega) ?_ | (change vcFun _ _ _ _ _; refine call_eq rfl (by repeat' (first | trivial | refine And.intro ?_ ?_ | (show 0 + _ ≤ List.length _; simp))) ALeL.refl (heq) rfl ?_) | (change vcFunD _ _ _ _ _; refine callD_eq rfl (by repeat' (first | trivial | refine And.intro ?_ ?_ | (show 0 + _ ≤ List.length _; simp))) ALeL.refl (hc1) rfl ?_) | (change vcFunD _ _ _ _ _; refine callD_eq rfl (by repeat' (first | trivial | refine And.intro ?_ ?_ | (show 0 + _ ≤ List.length _; simp))) ALeL.refl (hc2) rfl ?_) | fail)
              all_goals
                refine ⟨i + 1, hlt, by omega, ?_⟩
                rw [hjf, map_snoc, sl_app, ob_app]
                exact back [4] rfl rfl (by repeat' (first | exact trivial | exact rfl | exact ren_get rfl | refine kept_ob rfl ?_ | exact ⟨_, rfl, ALe.refl⟩ | refine And.intro ?_ ?_)) (by repeat' (first | exact trivial | exact rfl | exact ren_get rfl | refine kept_ob rfl ?_ | exact ⟨_, rfl, ALe.refl⟩ | (refine slot_eq rfl (congrArg (vint .i64) ?_); omega) | refine And.intro ?_ ?_))
          · have hX : joinX c d k = ⟨k, x.bef, x.aft⟩ := by unfold joinX; rw [hf1, hf2]
            rw [hX] at hjt hjf
            have heq := c_equal x.bef x.aft (hfc x hf1).1 (hfc x hf1).2
            have hc1 := c_cloneS x.bef (hfc x hf1).1
            have hc2 := c_cloneS x.aft (hfc x hf1).2
            by_cases hb : x.bef = x.aft
            · rw [pB_t hb] at heq
              have hjt := hjt hb
              repeat' (first | (refine fv_sl ?_) | (refine fh_ob ?_) | (refine ⟨_, hkr, ?_⟩) | (refine ⟨i, rfl, hlt, ?_⟩) | ((change vcFun _ _ _ _ _; refine call_find (by omega) hf1 ?_)) | ((change vcFun _ _ _ _ _; refine call_find (by omega) hf2 ?_)) | refine o1 ?_ | refine o2 ?_ | refine k1 ?_ | refine k2 ?_ | refine k3 ?_ | refine k4 ?_ | refine k6 ?_ | refine k7 ?_ | refine k8 ?_ | refine And.intro ?_ ?_ | exact trivial | refine o3 ?_ | refine o4 ?_ | refine o5 ?_ | refine o6 ?_ | refine k5 ?_ | (intro h; first | exact Bool.noConfusion h | exact nz _ h | exact nl h | (simp at h; done) | (simp at h; first | (exfalso; omega) | skip) | skip) | (change retOk _ _ _ _; refine ret_pure rfl trivial ?_) | exact (rfl : allOne _ = true) | (refine (?_ : (0 : Int) ≤ _); omega) | (refine (?_ : _ ≠ _); omega) | (refine (?_ : srcLen _ = rowsLen _); rfl) | exact Nat.le_of_ble_eq_true rfl | exact (by kernel_rfl : drawOk _ _ = true) | refine eqv_len_map ?_ | refine eqv_size ?_ | refine eqv_put (eqv_ck ?_) | refine eqv_zero ?_ | refine eqv_wrap (by omega) (by omega) ?_ | refine eqv_u64 (by omega) (by omega) ?_ | refine eqv_u8 (by omega) (by omega) ?_ | refine eqv_to _ (set_map rfl rfl) ?_ | refine ⟨_, _, (by first | rfl | assumption), at_map (by assumption), ?_⟩ | refine ⟨_, _, (by first | rfl | assumption), (by assumption), ?_⟩ | refine ⟨_, at_map (by assumption), (by decide), ?_⟩ | refine ⟨_, at_map (by assumption), ?_⟩ | (refine (?_ : _ ≤ 140737488355328); simp [rowsLen] <;> omega) | (refine (?_ : _ ≤ 9223372036854775807); simp [rowsLen] <;> omega) | (refine (?_ : _ = rowsLen _); simp [rowsLen] <;> omega) | refine eqv_to _ (app_row rfl) (eqv_to _ app_len ?_) | refine eqv_to _ (app_first rfl) (eqv_to 1 rfl ?_) | refine idx_sl (at_map (by assumption)) (by omega) ?_ | refine idx_ms _ (by first | rfl | assumption) (by first | assumption | omega) ?_ | (change vcFun _ _ _ _ _; refine call_eq rfl (by repeat' (first | trivial | refine And.intro ?_ ?_ | (show 0 + _ ≤ List.length _; simp))) ALeL.refl (heq) rfl ?_) | fail)
              refine ⟨i + 1, hlt, by omega, ?_⟩
              rw [hjt]
              exact back [0] rfl rfl (by repeat' (first | exact trivial | exact rfl | exact ren_get rfl | refine kept_ob rfl ?_ | exact ⟨_, rfl, ALe.refl⟩ | refine And.intro ?_ ?_)) (by repeat' (first | exact trivial | exact rfl | exact ren_get rfl | refine kept_ob rfl ?_ | exact ⟨_, rfl, ALe.refl⟩ | (refine slot_eq rfl (congrArg (vint .i64) ?_); omega) | refine And.intro ?_ ?_))
            · rw [pB_f hb] at heq
              have hjf := hjf hb
              repeat' (first | (refine fv_sl ?_) | (refine fh_ob ?_) | (refine ⟨_, hkr, ?_⟩) | (refine ⟨i, rfl, hlt, ?_⟩) | ((change vcFun _ _ _ _ _; refine call_find (by omega) hf1 ?_)) | ((change vcFun _ _ _ _ _; refine call_find (by omega) hf2 ?_)) | ((refine o_appD rfl rfl rfl rfl rfl rfl rfl rfl rfl rfl rfl hb1 hb2 ?_)) | refine o1 ?_ | refine o2 ?_ | refine k1 ?_ | refine k2 ?_ | refine k3 ?_ | refine k4 ?_ | refine k6 ?_ | refine k7 ?_ | refine k8 ?_ | refine And.intro ?_ ?_ | exact trivial | refine o3 ?_ | refine o4 ?_ | refine o5 ?_ | refine o6 ?_ | refine k5 ?_ | (intro h; first | exact Bool.noConfusion h | exact nz _ h | exact nl h | (simp at h; done) | (simp at h; first | (exfalso; omega) | skip) | skip) | (change retOk _ _ _ _; refine ret_pure rfl trivial ?_) | exact (rfl : allOne _ = true) | (refine (?_ : (0 : Int) ≤ _); omega) | (refine (?_ : _ ≠ _); omega) | (refine (?_ : srcLen _ = rowsLen _); rfl) | exact Nat.le_of_ble_eq_true rfl | exact (by kernel_rfl : drawOk _ _ = true) | refine eqv_len_map ?_ | refine eqv_size ?_ | refine eqv_put (eqv_ck ?_) | refine eqv_zero ?_ | refine eqv_wrap (by omega) (by omega) ?_ | refine eqv_u64 (by omega) (by omega) ?_ | refine eqv_u8 (by omega) (by omega) ?_ | refine eqv_to _ (set_map rfl rfl) ?_ | refine ⟨_, _, (by first | rfl | assumption), at_map (by assumption), ?_⟩ | refine ⟨_, _, (by first | rfl | assumption), (by assumption), ?_⟩ | refine ⟨_, at_map (by assumption), (by decide), ?_⟩ | refine ⟨_, at_map (by assumption), ?_⟩ | (refine (?_ : _ ≤ 140737488355328); simp [rowsLen] <;> omega) | (refine (?_ : _ ≤ 9223372036854775807); simp [rowsLen] <;> omega) | (refine (?_ : _ = rowsLen _); simp [rowsLen] <;> omega) | refine eqv_to _ (app_row rfl) (eqv_to _ app_len ?_) | refine eqv_to _ (app_first rfl) (eqv_to 1 rfl ?_) | refine idx_sl (at_map (by assumption)) (by omega) ?_ | refine idx_ms _ (by first | rfl | assumption) (by first | assumption | omega) ?_ | (change vcFun _ _ _ _ _; refine call_eq rfl (by repeat' (first | trivial | refine And.intro ?_ ?_ | (show 0 + _ ≤ List.length _; simp))) ALeL.refl (heq) rfl ?_) | (change vcFunD _ _ _ _ _; refine callD_eq rfl (by repeat' (first | trivial | refine And.intro ?_ ?_ | (show 0 + _ ≤ List.length _; simp))) ALeL.refl (hc1) rfl ?_) | (change vcFunD _ _ _ _ _; refine callD_eq rfl (by repeat' (first | trivial | refine And.intro ?_ ?_ | (show 0 + _ ≤ List.length _; simp))) ALeL.refl (hc2) rfl ?_) | fail)
              all_goals
                refine ⟨i + 1, hlt, by omega, ?_⟩
                rw [hjf, map_snoc, sl_app, ob_app]
                exact back [4] rfl rfl (by repeat' (first | exact trivial | exact rfl | exact ren_get rfl | refine kept_ob rfl ?_ | exact ⟨_, rfl, ALe.refl⟩ | refine And.intro ?_ ?_)) (by repeat' (first | exact trivial | exact rfl | exact ren_get rfl | refine kept_ob rfl ?_ | exact ⟨_, rfl, ALe.refl⟩ | (refine slot_eq rfl (congrArg (vint .i64) ?_); omega) | refine And.intro ?_ ?_))
          · have hX : joinX c d k = ⟨k, x.bef, y.aft⟩ := by unfold joinX; rw [hf1, hf2]
            rw [hX] at hjt hjf
            have heq := c_equal x.bef y.aft (hfc x hf1).1 (hfd y hf2).2
            have hc1 := c_cloneS x.bef (hfc x hf1).1
            have hc2 := c_cloneS y.aft (hfd y hf2).2
            by_cases hb : x.bef = y.aft
            · rw [pB_t hb] at heq
              have hjt := hjt hb
              repeat' (first | (refine fv_sl ?_) | (refine fh_ob ?_) | (refine ⟨_, hkr, ?_⟩) | (refine ⟨i, rfl, hlt, ?_⟩) | ((change vcFun _ _ _ _ _; refine call_find (by omega) hf1 ?_)) | ((change vcFun _ _ _ _ _; refine call_find (by omega) hf2 ?_)) | refine o1 ?_ | refine o2 ?_ | refine k1 ?_ | refine k2 ?_ | refine k3 ?_ | refine k4 ?_ | refine k6 ?_ | refine k7 ?_ | refine k8 ?_ | refine And.intro ?_ ?_ | exact trivial | refine o3 ?_ | refine o4 ?_ | refine o5 ?_ | refine o6 ?_ | refine k5 ?_ | (intro h; first | exact Bool.noConfusion h | exact nz _ h | exact nl h | (simp at h; done) | (simp at h; first | (exfalso; omega) | skip) | skip) | (change retOk _ _ _ _; refine ret_pure rfl trivial ?_) | exact (rfl : allOne _ = true) | (refine (?_ : (0 : Int) ≤ _); omega) | (refine (?_ : _ ≠ _); omega) | (refine (?_ : srcLen _ = rowsLen _); rfl) | exact Nat.le_of_ble_eq_true rfl | exact (by kernel_rfl : drawOk _ _ = true) | refine eqv_len_map ?_ | refine eqv_size ?_ | refine eqv_put (eqv_ck ?_) | refine eqv_zero ?_ | refine eqv_wrap (by omega) (by omega) ?_ | refine eqv_u64 (by omega) (by omega) ?_ | refine eqv_u8 (by omega) (by omega) ?_ | refine eqv_to _ (set_map rfl rfl) ?_ | refine ⟨_, _, (by first | rfl | assumption), at_map (by assumption), ?_⟩ | refine ⟨_, _, (by first | rfl | assumption), (by assumption), ?_⟩ | refine ⟨_, at_map (by assumption), (by decide), ?_⟩ | refine ⟨_, at_map (by assumption), ?_⟩ | (refine (?_ : _ ≤ 140737488355328); simp [rowsLen] <;> omega) | (refine (?_ : _ ≤ 9223372036854775807); simp [rowsLen] <;> omega) | (refine (?_ : _ = rowsLen _); simp [rowsLen] <;> omega) | refine eqv_to _ (app_row rfl) (eqv_to _ app_len ?_) | refine eqv_to _ (app_first rfl) (eqv_to 1 rfl ?_) | refine idx_sl (at_map (by assumption)) (by omega) ?_ | refine idx_ms _ (by first | rfl | assumption) (by first | assumption | omega) ?_ | (change vcFun _ _ _ _ _; refine call_eq rfl (by repeat' (first | trivial | refine And.intro ?_ ?_ | (show 0 + _ ≤ List.length _; simp))) ALeL.refl (heq) rfl ?_) | fail)
              refine ⟨i + 1, hlt, by omega, ?_⟩
              rw [hjt]
              exact back [0] rfl rfl (by repeat' (first | exact trivial | exact rfl | exact ren_get rfl | refine kept_ob rfl ?_ | exact ⟨_, rfl, ALe.refl⟩ | refine And.intro ?_ ?_)) (by repeat' (first | exact trivial | exact rfl | exact ren_get rfl | refine kept_ob rfl ?_ | exact ⟨_, rfl, ALe.refl⟩ | (refine slot_eq rfl (congrArg (vint .i64) ?_); omega) | refine And.intro ?_ ?_))
            · rw [pB_f hb] at heq
              have hjf := hjf hb
              repeat' (first | (refine fv_sl ?_) | (refine fh_ob ?_) | (refine ⟨_, hkr, ?_⟩) | (refine ⟨i, rfl, hlt, ?_⟩) | ((change vcFun _ _ _ _ _; refine call_find (by omega) hf1 ?_)) | ((change vcFun _ _ _ _ _; refine call_find (by omega) hf2 ?_)) | ((refine o_appD rfl rfl rfl rfl rfl rfl rfl rfl rfl rfl rfl hb1 hb2 ?_)) | refine o1 ?_ | refine o2 ?_ | refine k1 ?_ | refine k2 ?_ | refine k3 ?_ | refine k4 ?_ | refine k6 ?_ | refine k7 ?_ | refine k8 ?_ | refine And.intro ?_ ?_ | exact trivial | refine o3 ?_ | refine o4 ?_ | refine o5 ?_ | refine o6 ?_ | refine k5 ?_ | (intro h; first | exact Bool.noConfusion h | exact nz _ h | exact nl h | (simp at h; done) | (simp at h; first | (exfalso; omega) | skip) | skip) | (change retOk _ _ _ _; refine ret_pure rfl trivial ?_) | exact (rfl : allOne _ = true) | (refine (?_ : (0 : Int) ≤ _); omega) | (refine (?_ : _ ≠ _); omega) | (refine (?_ : srcLen _ = rowsLen _); rfl) | exact Nat.le_of_ble_eq_true rfl | exact (by kernel_rfl : drawOk _ _ = true) | refine eqv_len_map ?_ | refine eqv_size ?_ | refine eqv_put (eqv_ck ?_) | refine eqv_zero ?_ | refine eqv_wrap (by omega) (by omega) ?_ | refine eqv_u64 (by omega) (by omega) ?_ | refine eqv_u8 (by omega) (by omega) ?_ | refine eqv_to _ (set_map rfl rfl) ?_ | refine ⟨_, _, (by first | rfl | assumption), at_map (by assumption), ?_⟩ | refine ⟨_, _, (by first | rfl | assumption), (by assumption), ?_⟩ | refine ⟨_, at_map (by assumption), (by decide), ?_⟩ | refine ⟨_, at_map (by assumption), ?_⟩ | (refine (?_ : _ ≤ 140737488355328); simp [rowsLen] <;> omega) | (refine (?_ : _ ≤ 9223372036854775807); simp [rowsLen] <;> omega) | (refine (?_ : _ = rowsLen _); simp [rowsLen] <;> omega) | refine eqv_to _ (app_row rfl) (eqv_to _ app_len ?_) | refine eqv_to _ (app_first rfl) (eqv_to 1 rfl ?_) | refine idx_sl (at_map (by assumption)) (by omega) ?_ | refine idx_ms _ (by first | rfl | assumption) (by first | assumption | omega) ?_ | (change vcFun _ _ _ _ _; refine call_eq rfl (by repeat' (first | trivial | refine And.intro ?_ ?_ | (show 0 + _ ≤ List.length _; simp))) ALeL.refl (heq) rfl ?_) | (change vcFunD _ _ _ _ _; refine callD_eq rfl (by repeat' (first | trivial | refine And.intro ?_ ?_ | (show 0 + _ ≤ List.length _; simp))) ALeL.refl (hc1) rfl ?_) | (change vcFunD _ _ _ _ _; refine callD_eq rfl (by repeat' (first | trivial | refine And.intro ?_ ?_ | (show 0 + _ ≤ List.length _; simp))) ALeL.refl (hc2) rfl ?_) | fail)
              all_goals
                refine ⟨i + 1, hlt, by omega, ?_⟩
                rw [hjf, map_snoc, sl_app, ob_app]
                exact back [4] rfl rfl (by repeat' (first | exact trivial | exact rfl | exact ren_get rfl | refine kept_ob rfl ?_ | exact ⟨_, rfl, ALe.refl⟩ | refine And.intro ?_ ?_)) (by repeat' (first | exact trivial | exact rfl | exact ren_get rfl | refine kept_ob rfl ?_ | exact ⟨_, rfl, ALe.refl⟩ | (refine slot_eq rfl (congrArg (vint .i64) ?_); omega) | refine And.intro ?_ ?_))
        · obtain rfl : i = K.length := by omega
          rw [List.take_length]
          repeat' (first | (refine fv_sl ?_) | (refine fh_ob ?_) | refine o1 ?_ | refine o2 ?_ | refine k1 ?_ | refine k2 ?_ | refine k3 ?_ | refine k4 ?_ | refine k6 ?_ | refine k7 ?_ | refine k8 ?_ | refine And.intro ?_ ?_ | exact trivial | refine o3 ?_ | refine o4 ?_ | refine o5 ?_ | refine o6 ?_ | refine k5 ?_ | (intro h; first | exact Bool.noConfusion h | exact nz _ h | exact nl h | (simp at h; done) | (simp at h; first | (exfalso; omega) | skip) | skip) | (change retOk _ _ _ _; refine ret_pure rfl trivial ?_) | exact (rfl : allOne _ = true) | (refine (?_ : (0 : Int) ≤ _); omega) | (refine (?_ : _ ≠ _); omega) | (refine (?_ : srcLen _ = rowsLen _); rfl) | exact Nat.le_of_ble_eq_true rfl | exact (by kernel_rfl : drawOk _ _ = true) | refine eqv_len_map ?_ | refine eqv_size ?_ | refine eqv_put (eqv_ck ?_) | refine eqv_zero ?_ | refine eqv_wrap (by omega) (by omega) ?_ | refine eqv_u64 (by omega) (by omega) ?_ | refine eqv_u8 (by omega) (by omega) ?_ | refine eqv_to _ (set_map rfl rfl) ?_ | refine ⟨_, _, (by first | rfl | assumption), at_map (by assumption), ?_⟩ | refine ⟨_, _, (by first | rfl | assumption), (by assumption), ?_⟩ | refine ⟨_, at_map (by assumption), (by decide), ?_⟩ | refine ⟨_, at_map (by assumption), ?_⟩ | (refine (?_ : _ ≤ 140737488355328); simp [rowsLen] <;> omega) | (refine (?_ : _ ≤ 9223372036854775807); simp [rowsLen] <;> omega) | (refine (?_ : _ = rowsLen _); simp [rowsLen] <;> omega) | refine eqv_to _ (app_row rfl) (eqv_to _ app_len ?_) | refine eqv_to _ (app_first rfl) (eqv_to 1 rfl ?_) | refine idx_sl (at_map (by assumption)) (by omega) ?_ | refine idx_ms _ (by first | rfl | assumption) (by first | assumption | omega) ?_ | fail)
          exact ret_sl2 (id := 0) (ty := 54) rfl rfl
    · obtain ⟨e1, e2⟩ := jn1 (c := c) (d := d) fun h => h2 h.2
      rw [pB_t h1] at hoc
      rw [pB_f h2] at hod
      refine acall_of tok mixed 95 rfl (fn := Tryz.f16) (c := Tryz.f16.body.getD .skip) (by kernel_rfl) (by kernel_rfl) (by kernel_rfl) rfl 0 rfl ?_
      repeat' (first | refine o1 ?_ | refine o2 ?_ | refine k1 ?_ | refine k2 ?_ | refine k3 ?_ | refine k4 ?_ | refine k6 ?_ | refine k7 ?_ | refine k8 ?_ | refine And.intro ?_ ?_ | exact trivial | refine o3 ?_ | refine o4 ?_ | refine o5 ?_ | refine o6 ?_ | refine k5 ?_ | (intro h; first | exact Bool.noConfusion h | exact nz _ h | exact nl h | (simp at h; done) | (simp at h; first | (exfalso; omega) | skip) | skip) | (change retOk _ _ _ _; refine ret_pure rfl trivial ?_) | exact (rfl : allOne _ = true) | (refine (?_ : (0 : Int) ≤ _); omega) | (refine (?_ : _ ≠ _); omega) | (refine (?_ : srcLen _ = rowsLen _); rfl) | exact Nat.le_of_ble_eq_true rfl | exact (by kernel_rfl : drawOk _ _ = true) | refine eqv_len_map ?_ | refine eqv_size ?_ | refine eqv_put (eqv_ck ?_) | refine eqv_zero ?_ | refine eqv_wrap (by omega) (by omega) ?_ | refine eqv_u64 (by omega) (by omega) ?_ | refine eqv_u8 (by omega) (by omega) ?_ | refine eqv_to _ (set_map rfl rfl) ?_ | refine ⟨_, _, (by first | rfl | assumption), at_map (by assumption), ?_⟩ | refine ⟨_, _, (by first | rfl | assumption), (by assumption), ?_⟩ | refine ⟨_, at_map (by assumption), (by decide), ?_⟩ | refine ⟨_, at_map (by assumption), ?_⟩ | (refine (?_ : _ ≤ 140737488355328); simp [rowsLen] <;> omega) | (refine (?_ : _ ≤ 9223372036854775807); simp [rowsLen] <;> omega) | (refine (?_ : _ = rowsLen _); simp [rowsLen] <;> omega) | refine eqv_to _ (app_row rfl) (eqv_to _ app_len ?_) | refine eqv_to _ (app_first rfl) (eqv_to 1 rfl ?_) | refine idx_sl (at_map (by assumption)) (by omega) ?_ | refine idx_ms _ (by first | rfl | assumption) (by first | assumption | omega) ?_ | (change vcFun _ _ _ _ _; refine call_eq rfl (by repeat' (first | trivial | refine And.intro ?_ ?_ | (show 0 + _ ≤ List.length _; simp))) ALeL.refl (hoc) rfl ?_) | (change vcFun _ _ _ _ _; refine call_eq rfl (by repeat' (first | trivial | refine And.intro ?_ ?_ | (show 0 + _ ≤ List.length _; simp))) ALeL.refl (hod) rfl ?_) | fail)
      exact leq_j e2 e1
  · obtain ⟨e1, e2⟩ := jn1 (c := c) (d := d) fun h => h1 h.1
    rw [pB_f h1] at hoc
    refine acall_of tok mixed 95 rfl (fn := Tryz.f16) (c := Tryz.f16.body.getD .skip) (by kernel_rfl) (by kernel_rfl) (by kernel_rfl) rfl 0 rfl ?_
    repeat' (first | refine o1 ?_ | refine o2 ?_ | refine k1 ?_ | refine k2 ?_ | refine k3 ?_ | refine k4 ?_ | refine k6 ?_ | refine k7 ?_ | refine k8 ?_ | refine And.intro ?_ ?_ | exact trivial | refine o3 ?_ | refine o4 ?_ | refine o5 ?_ | refine o6 ?_ | refine k5 ?_ | (intro h; first | exact Bool.noConfusion h | exact nz _ h | exact nl h | (simp at h; done) | (simp at h; first | (exfalso; omega) | skip) | skip) | (change retOk _ _ _ _; refine ret_pure rfl trivial ?_) | exact (rfl : allOne _ = true) | (refine (?_ : (0 : Int) ≤ _); omega) | (refine (?_ : _ ≠ _); omega) | (refine (?_ : srcLen _ = rowsLen _); rfl) | exact Nat.le_of_ble_eq_true rfl | exact (by kernel_rfl : drawOk _ _ = true) | refine eqv_len_map ?_ | refine eqv_size ?_ | refine eqv_put (eqv_ck ?_) | refine eqv_zero ?_ | refine eqv_wrap (by omega) (by omega) ?_ | refine eqv_u64 (by omega) (by omega) ?_ | refine eqv_u8 (by omega) (by omega) ?_ | refine eqv_to _ (set_map rfl rfl) ?_ | refine ⟨_, _, (by first | rfl | assumption), at_map (by assumption), ?_⟩ | refine ⟨_, _, (by first | rfl | assumption), (by assumption), ?_⟩ | refine ⟨_, at_map (by assumption), (by decide), ?_⟩ | refine ⟨_, at_map (by assumption), ?_⟩ | (refine (?_ : _ ≤ 140737488355328); simp [rowsLen] <;> omega) | (refine (?_ : _ ≤ 9223372036854775807); simp [rowsLen] <;> omega) | (refine (?_ : _ = rowsLen _); simp [rowsLen] <;> omega) | refine eqv_to _ (app_row rfl) (eqv_to _ app_len ?_) | refine eqv_to _ (app_first rfl) (eqv_to 1 rfl ?_) | refine idx_sl (at_map (by assumption)) (by omega) ?_ | refine idx_ms _ (by first | rfl | assumption) (by first | assumption | omega) ?_ | (change vcFun _ _ _ _ _; refine call_eq rfl (by repeat' (first | trivial | refine And.intro ?_ ?_ | (show 0 + _ ≤ List.length _; simp))) ALeL.refl (hoc) rfl ?_) | fail)
    exact leq_j e2 e1
theorem c_join (c d : List Chg) (hc : c.length ≤ 400) (hd : d.length ≤ 400) (hcl : ChgsL c) (hdl : ChgsL d) : PCall Tryz.prog 16 [.pv (encChgs c), .pv (encChgs d)] (fun r => r = .tup [.pv (encChgs (joinV c d)), vint .i64 (joinE c d)]) := (c_join0 c d hc hd hcl hdl).weak fun r k => ⟨_, k.le, rfl⟩
end Go.Proofs.YtbcacaodfpgflaaGreatDoor.Cw

/-
  Contracts: Join by the reference.
-/
namespace Go.Proofs.YtbcacaodfpgflaaGreatDoor.Cw
open Go Go.Cw Go.Proofs
set_option linter.unusedVariables false
set_option maxRecDepth 100000
set_option maxHeartbeats 8000000

theorem tf {b : Bool} (h1 : b = true) (h2 : b = false) : False := by rw [h1] at h2; cases h2
theorem mid_len {c d : List Chg} {i k : Nat} : (midJ c d i k).length ≤ i + k := by
  unfold midJ doneK
  have h1 := List.length_filterMap_le (joinG c d) (clsOf ((c.take i).map Chg.cls ++ (d.take k).map Chg.cls))
  have h2 := clsOf_len (L := (c.take i).map Chg.cls ++ (d.take k).map Chg.cls)
  rw [List.length_append, List.length_map, List.length_map] at h2
  have h3 := List.length_take_le i c
  have h4 := List.length_take_le k d
  omega
theorem c_rjoin0 (c d : List Chg) (hc : c.length ≤ 400) (hd : d.length ≤ 400) (hcl : ChgsL c) (hdl : ChgsL d) : PCall Tryz.prog 17 [.pv (encChgs c), .pv (encChgs d)] (fun r => Leq r (.tup [.pv (encChgs (joinV c d)), vint .i64 (joinE c d)])) := by
  have hoc := c_rord34 c hcl (by omega)
  have hod := c_rord34 d hdl (by omega)
  by_cases h1 : orderedP c
  · by_cases h2 : orderedP d
    · rw [pB_t h1] at hoc
      rw [pB_t h2] at hod
      refine acall_of tok mixed 133 rfl (fn := Tryz.f17) (c := Tryz.f17.body.getD .skip) (by kernel_rfl) (by kernel_rfl) (by kernel_rfl) rfl 0 rfl ?_
      repeat' (first | refine o1 ?_ | refine o2 ?_ | refine k1 ?_ | refine k2 ?_ | refine k3 ?_ | refine k4 ?_ | refine k6 ?_ | refine k7 ?_ | refine k8 ?_ | refine And.intro ?_ ?_ | exact trivial | refine o3 ?_ | refine o4 ?_ | refine o5 ?_ | refine o6 ?_ | refine k5 ?_ | (intro h; first | exact Bool.noConfusion h | exact nz _ h | exact nl h | (simp at h; done) | (simp at h; first | (exfalso; omega) | skip) | skip) | (change retOk _ _ _ _; refine ret_pure rfl trivial ?_) | exact (rfl : allOne _ = true) | (refine (?_ : (0 : Int) ≤ _); omega) | (refine (?_ : _ ≠ _); omega) | (refine (?_ : srcLen _ = rowsLen _); rfl) | exact Nat.le_of_ble_eq_true rfl | exact (by kernel_rfl : drawOk _ _ = true) | refine eqv_len_map ?_ | refine eqv_size ?_ | refine eqv_put (eqv_ck ?_) | refine eqv_zero ?_ | refine eqv_wrap (by omega) (by omega) ?_ | refine eqv_u64 (by omega) (by omega) ?_ | refine eqv_u8 (by omega) (by omega) ?_ | refine eqv_to _ (set_map rfl rfl) ?_ | refine ⟨_, _, (by first | rfl | assumption), at_map (by assumption), ?_⟩ | refine ⟨_, _, (by first | rfl | assumption), (by assumption), ?_⟩ | refine ⟨_, at_map (by assumption), (by decide), ?_⟩ | refine ⟨_, at_map (by assumption), ?_⟩ | (refine (?_ : _ ≤ 140737488355328); simp [rowsLen] <;> omega) | (refine (?_ : _ ≤ 9223372036854775807); simp [rowsLen] <;> omega) | (refine (?_ : _ = rowsLen _); simp [rowsLen] <;> omega) | refine eqv_to _ (app_row rfl) (eqv_to _ app_len ?_) | refine eqv_to _ (app_first rfl) (eqv_to 1 rfl ?_) | refine idx_sl (at_map (by assumption)) (by omega) ?_ | refine idx_ms _ (by first | rfl | assumption) (by first | assumption | omega) ?_ | (change vcFun _ _ _ _ _; refine call_eq rfl (by repeat' (first | trivial | refine And.intro ?_ ?_ | (show 0 + _ ≤ List.length _; simp))) ALeL.refl (hoc) rfl ?_) | (change vcFun _ _ _ _ _; refine call_eq rfl (by repeat' (first | trivial | refine And.intro ?_ ?_ | (show 0 + _ ≤ List.length _; simp))) ALeL.refl (hod) rfl ?_) | fail)
      refine loop_for (fun x : Nat × Nat => [(0, .pv (encChgs c)), (1, .pv (encChgs d)), (6, slP 0 3 ((midJ c d x.1 x.2).map Chg.row)), (7, vint .i64 x.1), (8, vint .i64 x.2)]) (fun x => [obP 54 3 ((midJ c d x.1 x.2).map Chg.row)]) (fun x => x.1 ≤ c.length ∧ x.2 ≤ d.length ∧ sepJ c d x.1 x.2 ∧ goodTo c d x.1) (fun x => (c.length - x.1) + (d.length - x.2)) (0, 0) ⟨Nat.zero_le _, Nat.zero_le _, mid_zero.2, good_zero⟩ ?_ ?_
      · rw [mid_zero.1]
        exact back [0] rfl rfl (by repeat' (first | exact trivial | exact rfl | exact ren_get rfl | refine kept_ob rfl ?_ | exact ⟨_, rfl, ALe.refl⟩ | refine And.intro ?_ ?_)) (by repeat' (first | exact trivial | exact rfl | exact ren_get rfl | refine kept_ob rfl ?_ | exact ⟨_, rfl, ALe.refl⟩ | refine And.intro ?_ ?_))
      rintro ⟨i, k⟩ ⟨hi, hk, hsep, hgood⟩
      have hm := mid_len (c := c) (d := d) (i := i) (k := k)
      have m_c := fun x (hx : c[i]? = some x) hy => mid_c (i := i) (k := k) h1 h2 hsep hx hy
      have m_d := fun x (hx : d[k]? = some x) hy => mid_d (i := i) (k := k) h1 h2 hsep hx hy
      have m_cd := fun x y (hx : c[i]? = some x) (hy : d[k]? = some y) he => mid_cd (i := i) (k := k) h1 h2 hsep hx hy he
      have m_all := mid_all (c := c) (d := d)
      dsimp only at hi hk hsep hgood ⊢
      have hm' : (midJ c d i k).length ≤ 1000 := by omega
      generalize hD : midJ c d i k = D at *
      have hb1 : ((D.map Chg.row).length + 1) * 64 ≤ 140737488355328 := by rw [List.length_map]; omega
      have hb2 : (D.map Chg.row).length + 1 ≤ 9223372036854775807 := by rw [List.length_map]; omega
      rcases Nat.lt_or_ge i c.length with hil | hig
      · obtain ⟨x, hx⟩ := getE hil
        rcases Nat.lt_or_ge k d.length with hkl | hkg
        · obtain ⟨y, hy⟩ := getE hkl
          cases hxy : sLt x.cls y.cls with
          | true =>
            obtain ⟨e1, e2, e3⟩ := m_c x hx fun z hz => by rw [hy] at hz; cases hz; exact hxy
            repeat' (first | (refine fv_sl ?_) | (refine fh_ob ?_) | (refine idx_sl (k := i) (at_map hx) rfl ?_) | (refine idx_sl (k := k) (at_map hy) rfl ?_) | ((refine o_app rfl rfl rfl rfl rfl rfl rfl rfl rfl rfl rfl hb1 hb2 ?_)) | refine o1 ?_ | refine o2 ?_ | refine k1 ?_ | refine k2 ?_ | refine k3 ?_ | refine k4 ?_ | refine k6 ?_ | refine k7 ?_ | refine k8 ?_ | refine And.intro ?_ ?_ | exact trivial | refine o3 ?_ | refine o4 ?_ | refine o5 ?_ | refine o6 ?_ | refine k5 ?_ | (intro h; first | exact Bool.noConfusion h | exact nz _ h | exact nl h | (simp at h; done) | (simp at h; first | (exfalso; omega) | skip) | skip) | (change retOk _ _ _ _; refine ret_pure rfl trivial ?_) | exact (rfl : allOne _ = true) | (refine (?_ : (0 : Int) ≤ _); omega) | (refine (?_ : _ ≠ _); omega) | (refine (?_ : srcLen _ = rowsLen _); rfl) | exact Nat.le_of_ble_eq_true rfl | exact (by kernel_rfl : drawOk _ _ = true) | refine eqv_len_map ?_ | refine eqv_size ?_ | refine eqv_put (eqv_ck ?_) | refine eqv_zero ?_ | refine eqv_wrap (by omega) (by omega) ?_ | refine eqv_u64 (by omega) (by omega) ?_ | refine eqv_u8 (by omega) (by omega) ?_ | refine eqv_to _ (set_map rfl rfl) ?_ | refine ⟨_, _, (by first | rfl | assumption), at_map (by assumption), ?_⟩ | refine ⟨_, _, (by first | rfl | assumption), (by assumption), ?_⟩ | refine ⟨_, at_map (by assumption), (by decide), ?_⟩ | refine ⟨_, at_map (by assumption), ?_⟩ | (refine (?_ : _ ≤ 140737488355328); simp [rowsLen] <;> omega) | (refine (?_ : _ ≤ 9223372036854775807); simp [rowsLen] <;> omega) | (refine (?_ : _ = rowsLen _); simp [rowsLen] <;> omega) | refine eqv_to _ (app_row rfl) (eqv_to _ app_len ?_) | refine eqv_to _ (app_first rfl) (eqv_to 1 rfl ?_) | refine idx_sl (at_map (by assumption)) (by omega) ?_ | refine idx_ms _ (by first | rfl | assumption) (by first | assumption | omega) ?_ | fail)
            all_goals first
              | exact (tf hxy (by assumption)).elim
              | (refine ⟨(i + 1, k), ⟨hil, hk, e2, good_next hgood hx fun z hz => by rw [e3] at hz; cases hz⟩, by dsimp only; omega, ?_⟩
                 dsimp only
                 rw [e1, map_snoc, sl_app, ob_app]
                 exact back [2] rfl rfl (by repeat' (first | exact trivial | exact rfl | exact ren_get rfl | refine kept_ob rfl ?_ | exact ⟨_, rfl, ALe.refl⟩ | refine And.intro ?_ ?_)) (by repeat' (first | exact trivial | exact rfl | exact ren_get rfl | refine kept_ob rfl ?_ | exact ⟨_, rfl, ALe.refl⟩ | (refine slot_eq rfl (congrArg (vint .i64) ?_); omega) | refine And.intro ?_ ?_)))
          | false =>
            cases hyx : sLt y.cls x.cls with
            | true =>
              obtain ⟨e1, e2⟩ := m_d y hy fun z hz => by rw [hx] at hz; cases hz; exact hyx
              repeat' (first | (refine fv_sl ?_) | (refine fh_ob ?_) | (refine idx_sl (k := i) (at_map hx) rfl ?_) | (refine idx_sl (k := k) (at_map hy) rfl ?_) | ((refine o_app rfl rfl rfl rfl rfl rfl rfl rfl rfl rfl rfl hb1 hb2 ?_)) | refine o1 ?_ | refine o2 ?_ | refine k1 ?_ | refine k2 ?_ | refine k3 ?_ | refine k4 ?_ | refine k6 ?_ | refine k7 ?_ | refine k8 ?_ | refine And.intro ?_ ?_ | exact trivial | refine o3 ?_ | refine o4 ?_ | refine o5 ?_ | refine o6 ?_ | refine k5 ?_ | (intro h; first | exact Bool.noConfusion h | exact nz _ h | exact nl h | (simp at h; done) | (simp at h; first | (exfalso; omega) | skip) | skip) | (change retOk _ _ _ _; refine ret_pure rfl trivial ?_) | exact (rfl : allOne _ = true) | (refine (?_ : (0 : Int) ≤ _); omega) | (refine (?_ : _ ≠ _); omega) | (refine (?_ : srcLen _ = rowsLen _); rfl) | exact Nat.le_of_ble_eq_true rfl | exact (by kernel_rfl : drawOk _ _ = true) | refine eqv_len_map ?_ | refine eqv_size ?_ | refine eqv_put (eqv_ck ?_) | refine eqv_zero ?_ | refine eqv_wrap (by omega) (by omega) ?_ | refine eqv_u64 (by omega) (by omega) ?_ | refine eqv_u8 (by omega) (by omega) ?_ | refine eqv_to _ (set_map rfl rfl) ?_ | refine ⟨_, _, (by first | rfl | assumption), at_map (by assumption), ?_⟩ | refine ⟨_, _, (by first | rfl | assumption), (by assumption), ?_⟩ | refine ⟨_, at_map (by assumption), (by decide), ?_⟩ | refine ⟨_, at_map (by assumption), ?_⟩ | (refine (?_ : _ ≤ 140737488355328); simp [rowsLen] <;> omega) | (refine (?_ : _ ≤ 9223372036854775807); simp [rowsLen] <;> omega) | (refine (?_ : _ = rowsLen _); simp [rowsLen] <;> omega) | refine eqv_to _ (app_row rfl) (eqv_to _ app_len ?_) | refine eqv_to _ (app_first rfl) (eqv_to 1 rfl ?_) | refine idx_sl (at_map (by assumption)) (by omega) ?_ | refine idx_ms _ (by first | rfl | assumption) (by first | assumption | omega) ?_ | fail)
              all_goals first
                | exact (tf (by assumption) hxy).elim
                | exact (tf hyx (by assumption)).elim
                | (refine ⟨(i, k + 1), ⟨hi, hkl, e2, hgood⟩, by dsimp only; omega, ?_⟩
                   dsimp only
                   rw [e1, map_snoc, sl_app, ob_app]
                   exact back [2] rfl rfl (by repeat' (first | exact trivial | exact rfl | exact ren_get rfl | refine kept_ob rfl ?_ | exact ⟨_, rfl, ALe.refl⟩ | refine And.intro ?_ ?_)) (by repeat' (first | exact trivial | exact rfl | exact ren_get rfl | refine kept_ob rfl ?_ | exact ⟨_, rfl, ALe.refl⟩ | (refine slot_eq rfl (congrArg (vint .i64) ?_); omega) | refine And.intro ?_ ?_)))
            | false =>
              have he := sLt_conn hxy hyx
              obtain ⟨e1, e2, e3⟩ := m_cd x y hx hy he
              have hq1 := c_same x.aft y.bef (hcl x (List.mem_of_getElem? hx)).2 (hdl y (List.mem_of_getElem? hy)).1
              have hq2 := c_same x.bef y.aft (hcl x (List.mem_of_getElem? hx)).1 (hdl y (List.mem_of_getElem? hy)).2
              by_cases hab : x.aft = y.bef
              · rw [pB_t hab] at hq1
                by_cases hba : x.bef = y.aft
                · rw [pB_t hba] at hq2 e1
                  rw [if_pos rfl, List.append_nil] at e1
                  repeat' (first | (refine fv_sl ?_) | (refine fh_ob ?_) | (refine idx_sl (k := i) (at_map hx) rfl ?_) | (refine idx_sl (k := k) (at_map hy) rfl ?_) | refine o1 ?_ | refine o2 ?_ | refine k1 ?_ | refine k2 ?_ | refine k3 ?_ | refine k4 ?_ | refine k6 ?_ | refine k7 ?_ | refine k8 ?_ | refine And.intro ?_ ?_ | exact trivial | refine o3 ?_ | refine o4 ?_ | refine o5 ?_ | refine o6 ?_ | refine k5 ?_ | (intro h; first | exact Bool.noConfusion h | exact nz _ h | exact nl h | (simp at h; done) | (simp at h; first | (exfalso; omega) | skip) | skip) | (change retOk _ _ _ _; refine ret_pure rfl trivial ?_) | exact (rfl : allOne _ = true) | (refine (?_ : (0 : Int) ≤ _); omega) | (refine (?_ : _ ≠ _); omega) | (refine (?_ : srcLen _ = rowsLen _); rfl) | exact Nat.le_of_ble_eq_true rfl | exact (by kernel_rfl : drawOk _ _ = true) | refine eqv_len_map ?_ | refine eqv_size ?_ | refine eqv_put (eqv_ck ?_) | refine eqv_zero ?_ | refine eqv_wrap (by omega) (by omega) ?_ | refine eqv_u64 (by omega) (by omega) ?_ | refine eqv_u8 (by omega) (by omega) ?_ | refine eqv_to _ (set_map rfl rfl) ?_ | refine ⟨_, _, (by first | rfl | assumption), at_map (by assumption), ?_⟩ | refine ⟨_, _, (by first | rfl | assumption), (by assumption), ?_⟩ | refine ⟨_, at_map (by assumption), (by decide), ?_⟩ | refine ⟨_, at_map (by assumption), ?_⟩ | (refine (?_ : _ ≤ 140737488355328); simp [rowsLen] <;> omega) | (refine (?_ : _ ≤ 9223372036854775807); simp [rowsLen] <;> omega) | (refine (?_ : _ = rowsLen _); simp [rowsLen] <;> omega) | refine eqv_to _ (app_row rfl) (eqv_to _ app_len ?_) | refine eqv_to _ (app_first rfl) (eqv_to 1 rfl ?_) | refine idx_sl (at_map (by assumption)) (by omega) ?_ | refine idx_ms _ (by first | rfl | assumption) (by first | assumption | omega) ?_ | (change vcFunD _ _ _ _ _; refine callD_eq rfl (by repeat' (first | trivial | refine And.intro ?_ ?_ | (show 0 + _ ≤ List.length _; simp))) ALeL.refl (hq1) rfl ?_) | (change vcFunD _ _ _ _ _; refine callD_eq rfl (by repeat' (first | trivial | refine And.intro ?_ ?_ | (show 0 + _ ≤ List.length _; simp))) ALeL.refl (hq2) rfl ?_) | fail)
                  all_goals first
                    | exact (tf (by assumption) hxy).elim
                    | exact (tf (by assumption) hyx).elim
                    | (refine ⟨(i + 1, k + 1), ⟨hil, hkl, e2, good_next hgood hx fun z hz => by rw [e3] at hz; cases hz; exact hab⟩, by dsimp only; omega, ?_⟩
                       dsimp only
                       rw [e1]
                       exact back [0] rfl rfl (by repeat' (first | exact trivial | exact rfl | exact ren_get rfl | refine kept_ob rfl ?_ | exact ⟨_, rfl, ALe.refl⟩ | refine And.intro ?_ ?_)) (by repeat' (first | exact trivial | exact rfl | exact ren_get rfl | refine kept_ob rfl ?_ | exact ⟨_, rfl, ALe.refl⟩ | (refine slot_eq rfl (congrArg (vint .i64) ?_); omega) | refine And.intro ?_ ?_)))
                · rw [pB_f hba] at hq2 e1
                  rw [if_neg (by simp)] at e1
                  repeat' (first | (refine fv_sl ?_) | (refine fh_ob ?_) | (refine idx_sl (k := i) (at_map hx) rfl ?_) | (refine idx_sl (k := k) (at_map hy) rfl ?_) | ((refine o_appD rfl rfl rfl rfl rfl rfl rfl rfl rfl rfl rfl hb1 hb2 ?_)) | refine o1 ?_ | refine o2 ?_ | refine k1 ?_ | refine k2 ?_ | refine k3 ?_ | refine k4 ?_ | refine k6 ?_ | refine k7 ?_ | refine k8 ?_ | refine And.intro ?_ ?_ | exact trivial | refine o3 ?_ | refine o4 ?_ | refine o5 ?_ | refine o6 ?_ | refine k5 ?_ | (intro h; first | exact Bool.noConfusion h | exact nz _ h | exact nl h | (simp at h; done) | (simp at h; first | (exfalso; omega) | skip) | skip) | (change retOk _ _ _ _; refine ret_pure rfl trivial ?_) | exact (rfl : allOne _ = true) | (refine (?_ : (0 : Int) ≤ _); omega) | (refine (?_ : _ ≠ _); omega) | (refine (?_ : srcLen _ = rowsLen _); rfl) | exact Nat.le_of_ble_eq_true rfl | exact (by kernel_rfl : drawOk _ _ = true) | refine eqv_len_map ?_ | refine eqv_size ?_ | refine eqv_put (eqv_ck ?_) | refine eqv_zero ?_ | refine eqv_wrap (by omega) (by omega) ?_ | refine eqv_u64 (by omega) (by omega) ?_ | refine eqv_u8 (by omega) (by omega) ?_ | refine eqv_to _ (set_map rfl rfl) ?_ | refine ⟨_, _, (by first | rfl | assumption), at_map (by assumption), ?_⟩ | refine ⟨_, _, (by first | rfl | assumption), (by assumption), ?_⟩ | refine ⟨_, at_map (by assumption), (by decide), ?_⟩ | refine ⟨_, at_map (by assumption), ?_⟩ | (refine (?_ : _ ≤ 140737488355328); simp [rowsLen] <;> omega) | (refine (?_ : _ ≤ 9223372036854775807); simp [rowsLen] <;> omega) | (refine (?_ : _ = rowsLen _); simp [rowsLen] <;> omega) | refine eqv_to _ (app_row rfl) (eqv_to _ app_len ?_) | refine eqv_to _ (app_first rfl) (eqv_to 1 rfl ?_) | refine idx_sl (at_map (by assumption)) (by omega) ?_ | refine idx_ms _ (by first | rfl | assumption) (by first | assumption | omega) ?_ | (change vcFunD _ _ _ _ _; refine callD_eq rfl (by repeat' (first | trivial | refine And.intro ?_ ?_ | (show 0 + _ ≤ List.length _; simp))) ALeL.refl (hq1) rfl ?_) | (change vcFunD _ _ _ _ _; refine callD_eq rfl (by repeat' (first | trivial | refine And.intro ?_ ?_ | (show 0 + _ ≤ List.length _; simp))) ALeL.refl (hq2) rfl ?_) | fail)
                  all_goals first
                    | exact (tf (by assumption) hxy).elim
                    | exact (tf (by assumption) hyx).elim
                    | (refine ⟨(i + 1, k + 1), ⟨hil, hkl, e2, good_next hgood hx fun z hz => by rw [e3] at hz; cases hz; exact hab⟩, by dsimp only; omega, ?_⟩
                       dsimp only
                       rw [e1, map_snoc, sl_app, ob_app]
                       exact back [2] rfl rfl (by repeat' (first | exact trivial | exact rfl | exact ren_get rfl | refine kept_ob rfl ?_ | exact ⟨_, rfl, ALe.refl⟩ | refine And.intro ?_ ?_)) (by repeat' (first | exact trivial | exact rfl | exact ren_get rfl | refine kept_ob rfl ?_ | exact ⟨_, rfl, ALe.refl⟩ | (refine slot_eq rfl (congrArg (vint .i64) ?_); omega) | refine And.intro ?_ ?_)))
              · rw [pB_f hab] at hq1
                obtain ⟨g1, g2⟩ := jn2 h1 h2 (good_bad hx e3 hab)
                repeat' (first | (refine fv_sl ?_) | (refine fh_ob ?_) | (refine idx_sl (k := i) (at_map hx) rfl ?_) | (refine idx_sl (k := k) (at_map hy) rfl ?_) | refine o1 ?_ | refine o2 ?_ | refine k1 ?_ | refine k2 ?_ | refine k3 ?_ | refine k4 ?_ | refine k6 ?_ | refine k7 ?_ | refine k8 ?_ | refine And.intro ?_ ?_ | exact trivial | refine o3 ?_ | refine o4 ?_ | refine o5 ?_ | refine o6 ?_ | refine k5 ?_ | (intro h; first | exact Bool.noConfusion h | exact nz _ h | exact nl h | (simp at h; done) | (simp at h; first | (exfalso; omega) | skip) | skip) | (change retOk _ _ _ _; refine ret_pure rfl trivial ?_) | exact (rfl : allOne _ = true) | (refine (?_ : (0 : Int) ≤ _); omega) | (refine (?_ : _ ≠ _); omega) | (refine (?_ : srcLen _ = rowsLen _); rfl) | exact Nat.le_of_ble_eq_true rfl | exact (by kernel_rfl : drawOk _ _ = true) | refine eqv_len_map ?_ | refine eqv_size ?_ | refine eqv_put (eqv_ck ?_) | refine eqv_zero ?_ | refine eqv_wrap (by omega) (by omega) ?_ | refine eqv_u64 (by omega) (by omega) ?_ | refine eqv_u8 (by omega) (by omega) ?_ | refine eqv_to _ (set_map rfl rfl) ?_ | refine ⟨_, _, (by first | rfl | assumption), at_map (by assumption), ?_⟩ | refine ⟨_, _, (by first | rfl | assumption), (by assumption), ?_⟩ | refine ⟨_, at_map (by assumption), (by decide), ?_⟩ | refine ⟨_, at_map (by assumption), ?_⟩ | (refine (?_ : _ ≤ 140737488355328); simp [rowsLen] <;> omega) | (refine (?_ : _ ≤ 9223372036854775807); simp [rowsLen] <;> omega) | (refine (?_ : _ = rowsLen _); simp [rowsLen] <;> omega) | refine eqv_to _ (app_row rfl) (eqv_to _ app_len ?_) | refine eqv_to _ (app_first rfl) (eqv_to 1 rfl ?_) | refine idx_sl (at_map (by assumption)) (by omega) ?_ | refine idx_ms _ (by first | rfl | assumption) (by first | assumption | omega) ?_ | (change vcFunD _ _ _ _ _; refine callD_eq rfl (by repeat' (first | trivial | refine And.intro ?_ ?_ | (show 0 + _ ≤ List.length _; simp))) ALeL.refl (hq1) rfl ?_) | fail)
                all_goals first
                  | exact (tf (by assumption) hxy).elim
                  | exact (tf (by assumption) hyx).elim
                  | exact leq_j g2 g1
        · obtain rfl : k = d.length := by omega
          obtain ⟨e1, e2, e3⟩ := m_c x hx fun z hz => by rw [List.getElem?_eq_none (Nat.le_refl _)] at hz; cases hz
          repeat' (first | (refine fv_sl ?_) | (refine fh_ob ?_) | (refine idx_sl (k := i) (at_map hx) rfl ?_) | ((refine o_app rfl rfl rfl rfl rfl rfl rfl rfl rfl rfl rfl hb1 hb2 ?_)) | refine o1 ?_ | refine o2 ?_ | refine k1 ?_ | refine k2 ?_ | refine k3 ?_ | refine k4 ?_ | refine k6 ?_ | refine k7 ?_ | refine k8 ?_ | refine And.intro ?_ ?_ | exact trivial | refine o3 ?_ | refine o4 ?_ | refine o5 ?_ | refine o6 ?_ | refine k5 ?_ | (intro h; first | exact Bool.noConfusion h | exact nz _ h | exact nl h | (simp at h; done) | (simp at h; first | (exfalso; omega) | skip) | skip) | (change retOk _ _ _ _; refine ret_pure rfl trivial ?_) | exact (rfl : allOne _ = true) | (refine (?_ : (0 : Int) ≤ _); omega) | (refine (?_ : _ ≠ _); omega) | (refine (?_ : srcLen _ = rowsLen _); rfl) | exact Nat.le_of_ble_eq_true rfl | exact (by kernel_rfl : drawOk _ _ = true) | refine eqv_len_map ?_ | refine eqv_size ?_ | refine eqv_put (eqv_ck ?_) | refine eqv_zero ?_ | refine eqv_wrap (by omega) (by omega) ?_ | refine eqv_u64 (by omega) (by omega) ?_ | refine eqv_u8 (by omega) (by omega) ?_ | refine eqv_to _ (set_map rfl rfl) ?_ | refine ⟨_, _, (by first | rfl | assumption), at_map (by assumption), ?_⟩ | refine ⟨_, _, (by first | rfl | assumption), (by assumption), ?_⟩ | refine ⟨_, at_map (by assumption), (by decide), ?_⟩ | refine ⟨_, at_map (by assumption), ?_⟩ | (refine (?_ : _ ≤ 140737488355328); simp [rowsLen] <;> omega) | (refine (?_ : _ ≤ 9223372036854775807); simp [rowsLen] <;> omega) | (refine (?_ : _ = rowsLen _); simp [rowsLen] <;> omega) | refine eqv_to _ (app_row rfl) (eqv_to _ app_len ?_) | refine eqv_to _ (app_first rfl) (eqv_to 1 rfl ?_) | refine idx_sl (at_map (by assumption)) (by omega) ?_ | refine idx_ms _ (by first | rfl | assumption) (by first | assumption | omega) ?_ | fail)
          all_goals first
            | (refine ⟨(i + 1, d.length), ⟨hil, hk, e2, good_next hgood hx fun z hz => by rw [e3] at hz; cases hz⟩, by dsimp only; omega, ?_⟩
               dsimp only
               rw [e1, map_snoc, sl_app, ob_app]
               exact back [2] rfl rfl (by repeat' (first | exact trivial | exact rfl | exact ren_get rfl | refine kept_ob rfl ?_ | exact ⟨_, rfl, ALe.refl⟩ | refine And.intro ?_ ?_)) (by repeat' (first | exact trivial | exact rfl | exact ren_get rfl | refine kept_ob rfl ?_ | exact ⟨_, rfl, ALe.refl⟩ | (refine slot_eq rfl (congrArg (vint .i64) ?_); omega) | refine And.intro ?_ ?_)))
      · obtain rfl : i = c.length := by omega
        rcases Nat.lt_or_ge k d.length with hkl | hkg
        · obtain ⟨y, hy⟩ := getE hkl
          obtain ⟨e1, e2⟩ := m_d y hy fun z hz => by rw [List.getElem?_eq_none (Nat.le_refl _)] at hz; cases hz
          repeat' (first | (refine fv_sl ?_) | (refine fh_ob ?_) | (refine idx_sl (k := k) (at_map hy) rfl ?_) | ((refine o_app rfl rfl rfl rfl rfl rfl rfl rfl rfl rfl rfl hb1 hb2 ?_)) | refine o1 ?_ | refine o2 ?_ | refine k1 ?_ | refine k2 ?_ | refine k3 ?_ | refine k4 ?_ | refine k6 ?_ | refine k7 ?_ | refine k8 ?_ | refine And.intro ?_ ?_ | exact trivial | refine o3 ?_ | refine o4 ?_ | refine o5 ?_ | refine o6 ?_ | refine k5 ?_ | (intro h; first | exact Bool.noConfusion h | exact nz _ h | exact nl h | (simp at h; done) | (simp at h; first | (exfalso; omega) | skip) | skip) | (change retOk _ _ _ _; refine ret_pure rfl trivial ?_) | exact (rfl : allOne _ = true) | (refine (?_ : (0 : Int) ≤ _); omega) | (refine (?_ : _ ≠ _); omega) | (refine (?_ : srcLen _ = rowsLen _); rfl) | exact Nat.le_of_ble_eq_true rfl | exact (by kernel_rfl : drawOk _ _ = true) | refine eqv_len_map ?_ | refine eqv_size ?_ | refine eqv_put (eqv_ck ?_) | refine eqv_zero ?_ | refine eqv_wrap (by omega) (by omega) ?_ | refine eqv_u64 (by omega) (by omega) ?_ | refine eqv_u8 (by omega) (by omega) ?_ | refine eqv_to _ (set_map rfl rfl) ?_ | refine ⟨_, _, (by first | rfl | assumption), at_map (by assumption), ?_⟩ | refine ⟨_, _, (by first | rfl | assumption), (by assumption), ?_⟩ | refine ⟨_, at_map (by assumption), (by decide), ?_⟩ | refine ⟨_, at_map (by assumption), ?_⟩ | (refine (?_ : _ ≤ 140737488355328); simp [rowsLen] <;> omega) | (refine (?_ : _ ≤ 9223372036854775807); simp [rowsLen] <;> omega) | (refine (?_ : _ = rowsLen _); simp [rowsLen] <;> omega) | refine eqv_to _ (app_row rfl) (eqv_to _ app_len ?_) | refine eqv_to _ (app_first rfl) (eqv_to 1 rfl ?_) | refine idx_sl (at_map (by assumption)) (by omega) ?_ | refine idx_ms _ (by first | rfl | assumption) (by first | assumption | omega) ?_ | fail)
          all_goals first
            | (refine ⟨(c.length, k + 1), ⟨hi, hkl, e2, hgood⟩, by dsimp only; omega, ?_⟩
               dsimp only
               rw [e1, map_snoc, sl_app, ob_app]
               exact back [2] rfl rfl (by repeat' (first | exact trivial | exact rfl | exact ren_get rfl | refine kept_ob rfl ?_ | exact ⟨_, rfl, ALe.refl⟩ | refine And.intro ?_ ?_)) (by repeat' (first | exact trivial | exact rfl | exact ren_get rfl | refine kept_ob rfl ?_ | exact ⟨_, rfl, ALe.refl⟩ | (refine slot_eq rfl (congrArg (vint .i64) ?_); omega) | refine And.intro ?_ ?_)))
        · obtain rfl : k = d.length := by omega
          obtain ⟨g1, g2⟩ := jn3 h1 h2 (good_all hgood)
          rw [g1, g2, ← m_all, hD]
          repeat' (first | (refine fv_sl ?_) | (refine fh_ob ?_) | refine o1 ?_ | refine o2 ?_ | refine k1 ?_ | refine k2 ?_ | refine k3 ?_ | refine k4 ?_ | refine k6 ?_ | refine k7 ?_ | refine k8 ?_ | refine And.intro ?_ ?_ | exact trivial | refine o3 ?_ | refine o4 ?_ | refine o5 ?_ | refine o6 ?_ | refine k5 ?_ | (intro h; first | exact Bool.noConfusion h | exact nz _ h | exact nl h | (simp at h; done) | (simp at h; first | (exfalso; omega) | skip) | skip) | (change retOk _ _ _ _; refine ret_pure rfl trivial ?_) | exact (rfl : allOne _ = true) | (refine (?_ : (0 : Int) ≤ _); omega) | (refine (?_ : _ ≠ _); omega) | (refine (?_ : srcLen _ = rowsLen _); rfl) | exact Nat.le_of_ble_eq_true rfl | exact (by kernel_rfl : drawOk _ _ = true) | refine eqv_len_map ?_ | refine eqv_size ?_ | refine eqv_put (eqv_ck ?_) | refine eqv_zero ?_ | refine eqv_wrap (by omega) (by omega) ?_ | refine eqv_u64 (by omega) (by omega) ?_ | refine eqv_u8 (by omega) (by omega) ?_ | refine eqv_to _ (set_map rfl rfl) ?_ | refine ⟨_, _, (by first | rfl | assumption), at_map (by assumption), ?_⟩ | refine ⟨_, _, (by first | rfl | assumption), (by assumption), ?_⟩ | refine ⟨_, at_map (by assumption), (by decide), ?_⟩ | refine ⟨_, at_map (by assumption), ?_⟩ | (refine (?_ : _ ≤ 140737488355328); simp [rowsLen] <;> omega) | (refine (?_ : _ ≤ 9223372036854775807); simp [rowsLen] <;> omega) | (refine (?_ : _ = rowsLen _); simp [rowsLen] <;> omega) | refine eqv_to _ (app_row rfl) (eqv_to _ app_len ?_) | refine eqv_to _ (app_first rfl) (eqv_to 1 rfl ?_) | refine idx_sl (at_map (by assumption)) (by omega) ?_ | refine idx_ms _ (by first | rfl | assumption) (by first | assumption | omega) ?_ | fail)
          exact ret_sl2 (id := 0) (ty := 54) rfl rfl
    · obtain ⟨e1, e2⟩ := jn1 (c := c) (d := d) fun h => h2 h.2
      rw [pB_t h1] at hoc
      rw [pB_f h2] at hod
      refine acall_of tok mixed 133 rfl (fn := Tryz.f17) (c := Tryz.f17.body.getD .skip) (by kernel_rfl) (by kernel_rfl) (by kernel_rfl) rfl 0 rfl ?_
      repeat' (first | refine o1 ?_ | refine o2 ?_ | refine k1 ?_ | refine k2 ?_ | refine k3 ?_ | refine k4 ?_ | refine k6 ?_ | refine k7 ?_ | refine k8 ?_ | refine And.intro ?_ ?_ | exact trivial | refine o3 ?_ | refine o4 ?_ | refine o5 ?_ | refine o6 ?_ | refine k5 ?_ | (intro h; first | exact Bool.noConfusion h | exact nz _ h | exact nl h | (simp at h; done) | (simp at h; first | (exfalso; omega) | skip) | skip) | (change retOk _ _ _ _; refine ret_pure rfl trivial ?_) | exact (rfl : allOne _ = true) | (refine (?_ : (0 : Int) ≤ _); omega) | (refine (?_ : _ ≠ _); omega) | (refine (?_ : srcLen _ = rowsLen _); rfl) | exact Nat.le_of_ble_eq_true rfl | exact (by kernel_rfl : drawOk _ _ = true) | refine eqv_len_map ?_ | refine eqv_size ?_ | refine eqv_put (eqv_ck ?_) | refine eqv_zero ?_ | refine eqv_wrap (by omega) (by omega) ?_ | refine eqv_u64 (by omega) (by omega) ?_ | refine eqv_u8 (by omega) (by omega) ?_ | refine eqv_to _ (set_map rfl rfl) ?_ | refine ⟨_, _, (by first | rfl | assumption), at_map (by assumption), ?_⟩ | refine ⟨_, _, (by first | rfl | assumption), (by assumption), ?_⟩ | refine ⟨_, at_map (by assumption), (by decide), ?_⟩ | refine ⟨_, at_map (by assumption), ?_⟩ | (refine (?_ : _ ≤ 140737488355328); simp [rowsLen] <;> omega) | (refine (?_ : _ ≤ 9223372036854775807); simp [rowsLen] <;> omega) | (refine (?_ : _ = rowsLen _); simp [rowsLen] <;> omega) | refine eqv_to _ (app_row rfl) (eqv_to _ app_len ?_) | refine eqv_to _ (app_first rfl) (eqv_to 1 rfl ?_) | refine idx_sl (at_map (by assumption)) (by omega) ?_ | refine idx_ms _ (by first | rfl | assumption) (by first | assumption | omega) ?_ | (change vcFun _ _ _ _ _; refine call_eq rfl (by repeat' (first | trivial | refine And.intro ?_ ?_ | (show 0 + _ ≤ List.length _; simp))) ALeL.refl (hoc) rfl ?_) | (change vcFun _ _ _ _ _; refine call_eq rfl (by repeat' (first | trivial | refine And.intro ?_ ?_ | (show 0 + _ ≤ List.length _; simp))) ALeL.refl (hod) rfl ?_) | fail)
      exact leq_j e2 e1
  · obtain ⟨e1, e2⟩ := jn1 (c := c) (d := d) fun h => h1 h.1
    rw [pB_f h1] at hoc
    refine acall_of tok mixed 133 rfl (fn := Tryz.f17) (c := Tryz.f17.body.getD .skip) (by kernel_rfl) (by kernel_rfl) (by kernel_rfl) rfl 0 rfl ?_
    repeat' (first | refine o1 ?_ | refine o2 ?_ | refine k1 ?_ | refine k2 ?_ | refine k3 ?_ | refine k4 ?_ | refine k6 ?_ | refine k7 ?_ | refine k8 ?_ | refine And.intro ?_ ?_ | exact trivial | refine o3 ?_ | refine o4 ?_ | refine o5 ?_ | refine o6 ?_ | refine k5 ?_ | (intro h; first | exact Bool.noConfusion h | exact nz _ h | exact nl h | (simp at h; done) | (simp at h; first | (exfalso; omega) | skip) | skip) | (change retOk _ _ _ _; refine ret_pure rfl trivial ?_) | exact (rfl : allOne _ = true) | (refine (?_ : (0 : Int) ≤ _); omega) | (refine (?_ : _ ≠ _); omega) | (refine (?_ : srcLen _ = rowsLen _); rfl) | exact Nat.le_of_ble_eq_true rfl | exact (by kernel_rfl : drawOk _ _ = true) | refine eqv_len_map ?_ | refine eqv_size ?_ | refine eqv_put (eqv_ck ?_) | refine eqv_zero ?_ | refine eqv_wrap (by omega) (by omega) ?_ | refine eqv_u64 (by omega) (by omega) ?_ | refine eqv_u8 (by omega) (by omega) ?_ | refine eqv_to _ (set_map rfl rfl) ?_ | refine ⟨_, _, (by first | rfl | assumption), at_map (by assumption), ?_⟩ | refine ⟨_, _, (by first | rfl | assumption), (by assumption), ?_⟩ | refine ⟨_, at_map (by assumption), (by decide), ?_⟩ | refine ⟨_, at_map (by assumption), ?_⟩ | (refine (?_ : _ ≤ 140737488355328); simp [rowsLen] <;> omega) | (refine (?_ : _ ≤ 9223372036854775807); simp [rowsLen] <;> omega) | (refine (?_ : _ = rowsLen _); simp [rowsLen] <;> omega) | refine eqv_to _ (app_row rfl) (eqv_to _ app_len ?_) | refine eqv_to _ (app_first rfl) (eqv_to 1 rfl ?_) | refine idx_sl (at_map (by assumption)) (by omega) ?_ | refine idx_ms _ (by first | rfl | assumption) (by first | assumption | omega) ?_ | (change vcFun _ _ _ _ _; refine call_eq rfl (by repeat' (first | trivial | refine And.intro ?_ ?_ | (show 0 + _ ≤ List.length _; simp))) ALeL.refl (hoc) rfl ?_) | fail)
    exact leq_j e2 e1
theorem c_rjoin (c d : List Chg) (hc : c.length ≤ 400) (hd : d.length ≤ 400) (hcl : ChgsL c) (hdl : ChgsL d) : PCall Tryz.prog 17 [.pv (encChgs c), .pv (encChgs d)] (fun r => r = .tup [.pv (encChgs (joinV c d)), vint .i64 (joinE c d)]) := (c_rjoin0 c d hc hd hcl hdl).weak fun r k => ⟨_, k.le, rfl⟩
end Go.Proofs.YtbcacaodfpgflaaGreatDoor.Cw

/-
  The example with which each law of chapter 34 begins: it answers true.
-/
namespace Go.Proofs.YtbcacaodfpgflaaGreatDoor.Cw
open Go Go.Cw Go.Proofs
set_option linter.unusedVariables false
set_option maxRecDepth 100000
set_option maxHeartbeats 8000000

def chC : Str := ⟨#[99]⟩
def awA : Sess := ⟨chC, ⟨1023, 0, 0, 1⟩, emp⟩
def awB : Sess := ⟨chC, ⟨1023, 1, 0, 1⟩, emp⟩
def awC : Sess := ⟨chC, ⟨7, 0, 0, 1⟩, emp⟩
def awD : Sess := ⟨chC, ⟨1016, 1, 0, 1⟩, emp⟩
def awO (l : List Sess) : Option AObj := some ⟨51, 6, false, .p (l.map Sess.row)⟩
theorem aw_splice : ACall Tryz.prog 20 [.ms 0 6 0 1, .ms 1 6 0 1, vint .i64 10, vint .i64 4] [awO [awA], awO [awB]] (fun r H' => r = .tup [.ms 2 6 0 2, vint .i64 0] ∧ H' = [awO [awA], awO [awB], awO [awC, awD]]) := by
  have h : exFun T F 100000 20 20 [.ms 0 6 0 1, .ms 1 6 0 1, vint .i64 10, vint .i64 4] [awO [awA], awO [awB]] = some (.tup [.ms 2 6 0 2, vint .i64 0], [awO [awA], awO [awB], awO [awC, awD]]) := by kernel_rfl
  exact (exFun_ok tok fok mixed 100000 20 20 _ [awO [awA], awO [awB]] _ _ h)
theorem aw_valid : PCall Tryz.prog 21 [.pv (encSess [awC, awD]), vint .i64 10] (fun r => r = vint .i64 0) := by
  have h : exFun T F 100000 20 21 [.pv (encSess [awC, awD]), vint .i64 10] [] = some (vint .i64 0, []) := by kernel_rfl
  exact (exFun_ok tok fok mixed 100000 20 21 _ [] _ _ h).mono fun r H' e => ⟨e.2, e.1⟩
theorem aw_code : codeP chC := by
  refine ⟨by decide, by decide, fun i hi b hb => ?_⟩
  obtain rfl : i = 0 := by have : i < 1 := hi; omega
  cases hb
  unfold chrP
  decide
theorem aw_sess {w d : Int} (hw : 1 ≤ w ∧ w < 1024) (hd : 0 ≤ d ∧ d < 7) : sessE ⟨chC, ⟨w, d, 0, 1⟩, emp⟩ 10 = 0 := by
  have h1 : setP w 20 := ⟨by decide, by decide, hw.1, by show w < 1048576; omega⟩
  have h2 : setP w 10 := ⟨by decide, by decide, hw.1, by show w < 1024; omega⟩
  have h3 : timeP ⟨chC, ⟨w, d, 0, 1⟩, emp⟩ 10 := ⟨⟨h1, hd.1, hd.2, (by decide : (0 : Int) ≤ 0), (by decide : (0 : Int) < 24), (by decide : (1 : Int) ≤ 1), (by decide : (1 : Int) ≤ 24 - 0)⟩, h2⟩
  unfold sessE
  rw [if_pos (pB_t aw_code), if_pos (pB_t h3), if_pos (pB_t (.inl rfl))]
theorem aw_validA : validE [awA] 10 = 0 := by
  refine valid_of ⟨by decide, by decide⟩ (by decide) (fun s hs => ?_) (fun i a b ha hb => ?_) (fun i k a b hk ha hb => ?_)
  · rw [List.mem_singleton.1 hs]; exact aw_sess ⟨by decide, by decide⟩ ⟨by decide, by decide⟩
  · cases hb
  · have := (List.getElem?_eq_some_iff.1 ha).1
    have : i < 1 := this
    omega
theorem aw_validL : validE [awC, awD] 10 = 0 := by
  refine valid_of ⟨by decide, by decide⟩ (by decide) (fun s hs => ?_) (fun i a b ha hb => ?_) (fun i k a b hk ha hb => ?_)
  · rcases List.mem_cons.1 hs with rfl | hs
    · exact aw_sess ⟨by decide, by decide⟩ ⟨by decide, by decide⟩
    · rw [List.mem_singleton.1 hs]; exact aw_sess ⟨by decide, by decide⟩ ⟨by decide, by decide⟩
  · have := (List.getElem?_eq_some_iff.1 hb).1
    have : i + 1 < 2 := this
    obtain rfl : i = 0 := by omega
    cases ha; cases hb
    exact .inr ⟨rfl, by decide⟩
  · have := (List.getElem?_eq_some_iff.1 ha).1
    have : i < 2 := this
    obtain rfl : i = 1 := by omega
    obtain rfl : k = 0 := by omega
    cases ha; cases hb
    rintro (h | h)
    · exact h.2 (by decide)
    · exact absurd h.2.1 (by decide)
theorem aw_cls : clsU [awA] [awC, awD] = [chC] := by
  unfold clsU
  refine strS_unique clsOf_str ?_ fun x => ?_
  · exact List.pairwise_singleton ..
  · rw [clsOf_mem]
    show x ∈ [chC, chC, chC] ↔ _
    simp
theorem aw_diff : diffE [awA] [awC, awD] 10 = 0 ∧ diffV [awA] [awC, awD] 10 = [⟨chC, [awA], [awC, awD]⟩] := by
  obtain ⟨h1, h2⟩ := df3 aw_validA aw_validL
  refine ⟨h1, ?_⟩
  rw [h2]
  unfold chgV
  rw [aw_cls]
  have e1 : ofC [awA] chC = [awA] := by unfold ofC; simp [awA, pB_t]
  have e2 : ofC [awC, awD] chC = [awC, awD] := by unfold ofC; simp [awC, awD, pB_t]
  unfold chgD
  have e3 : ¬ [awA] = [awC, awD] := fun h => by have := congrArg List.length h; cases this
  simp [e1, e2, pB_f e3]
theorem call_awdiff {K : AV → Heap → Prop} (hK : K (.tup [.pv (encChgs [⟨chC, [awA], [awC, awD]⟩]), vint .i64 0]) [some ⟨51, 6, true, .p [awA.row]⟩, awO [awB], some ⟨51, 6, true, .p [awC.row, awD.row]⟩]) :
    vcFun Tryz.prog 10 [.ms 0 6 0 1, .ms 2 6 0 2, vint .i64 10] [awO [awA], awO [awB], awO [awC, awD]] K := by
  have h3 := c_diff [awA] [awC, awD] 10 (by decide) (by decide)
  rw [aw_diff.1, aw_diff.2] at h3
  have hle : ALeL [.pv (encSess [awA]), .pv (encSess [awC, awD]), vint .i64 10] [.pv (encSess [awA]), .pv (encSess [awC, awD]), vint .i64 10] := ALeL.refl
  refine call_frz (as0 := [.pv (encSess [awA]), .pv (encSess [awC, awD]), vint .i64 10]) rfl ?_ hle h3 ?_
  · repeat' (first | exact trivial | refine And.intro ?_ ?_ | (show 0 + 1 ≤ 1; omega) | (show 0 + 2 ≤ 2; omega))
  · rintro r rfl
    exact hK
theorem call_awsplice {K : AV → Heap → Prop} (hK : K (.tup [.ms 2 6 0 2, vint .i64 0]) [some ⟨51, 6, false, .p [awA.row]⟩, some ⟨51, 6, false, .p [awB.row]⟩, some ⟨51, 6, false, .p [awC.row, awD.row]⟩]) :
    vcFun Tryz.prog 20 [.ms 0 6 0 1, .ms 1 6 0 1, vint .i64 10, vint .i64 4] [awO [awA], awO [awB]] K := by
  refine call_obj [0, 1] [awO [awA], awO [awB]] [.ms 0 6 0 1, .ms 1 6 0 1, vint .i64 10, vint .i64 4] rfl ⟨rfl, rfl, trivial⟩ rfl aw_splice ?_
  rintro r H' ⟨rfl, rfl⟩
  exact ⟨Nat.le_of_ble_eq_true rfl, hK⟩
theorem awake_ok : PCall Tryz.prog 7 [] (fun r => r = vbool true) := by
  refine acall_of tok mixed 70 rfl (fn := Tryz.f7) (c := Tryz.f7.body.getD .skip) (by kernel_rfl) (by kernel_rfl) (by kernel_rfl) rfl 0 rfl ?_
  repeat' (first | ((change vcFun _ _ _ _ _; refine call_awsplice ?_)) | (refine ⟨0, rfl, Nat.le_of_ble_eq_true rfl, ?_⟩) | (refine ⟨1, rfl, Nat.le_of_ble_eq_true rfl, ?_⟩) | (refine ⟨0, Chg.row ⟨chC, [awA], [awC, awD]⟩, rfl, rfl, ?_⟩) | (refine ⟨awC.row, rfl, ?_⟩) | (refine ⟨awD.row, rfl, ?_⟩) | ((change vcFun _ _ _ _ _; refine call_awdiff ?_)) | refine o1 ?_ | refine o2 ?_ | refine k1 ?_ | refine k2 ?_ | refine k3 ?_ | refine k4 ?_ | refine k6 ?_ | refine k7 ?_ | refine k8 ?_ | refine And.intro ?_ ?_ | exact trivial | refine o3 ?_ | refine o4 ?_ | refine o5 ?_ | refine o6 ?_ | refine k5 ?_ | (intro h; first | exact Bool.noConfusion h | exact nz _ h | exact nl h | (simp at h; done) | (simp at h; first | (exfalso; omega) | skip) | skip) | (change retOk _ _ _ _; refine ret_pure rfl trivial ?_) | exact (rfl : allOne _ = true) | (refine (?_ : (0 : Int) ≤ _); omega) | (refine (?_ : _ ≠ _); omega) | (refine (?_ : srcLen _ = rowsLen _); rfl) | exact Nat.le_of_ble_eq_true rfl | exact (by kernel_rfl : drawOk _ _ = true) | refine eqv_len_map ?_ | refine eqv_size ?_ | refine eqv_put (eqv_ck ?_) | refine eqv_zero ?_ | refine eqv_wrap (by omega) (by omega) ?_ | refine eqv_u64 (by omega) (by omega) ?_ | refine eqv_u8 (by omega) (by omega) ?_ | refine eqv_to _ (set_map rfl rfl) ?_ | refine ⟨_, _, (by first | rfl | assumption), at_map (by assumption), ?_⟩ | refine ⟨_, _, (by first | rfl | assumption), (by assumption), ?_⟩ | refine ⟨_, at_map (by assumption), (by decide), ?_⟩ | refine ⟨_, at_map (by assumption), ?_⟩ | (refine (?_ : _ ≤ 140737488355328); simp [rowsLen] <;> omega) | (refine (?_ : _ ≤ 9223372036854775807); simp [rowsLen] <;> omega) | (refine (?_ : _ = rowsLen _); simp [rowsLen] <;> omega) | refine eqv_to _ (app_row rfl) (eqv_to _ app_len ?_) | refine eqv_to _ (app_first rfl) (eqv_to 1 rfl ?_) | refine idx_sl (at_map (by assumption)) (by omega) ?_ | refine idx_ms _ (by first | rfl | assumption) (by first | assumption | omega) ?_ | (change vcFun _ _ _ _ _; refine call_eq rfl (by repeat' (first | trivial | refine And.intro ?_ ?_ | (show 0 + _ ≤ List.length _; simp))) ALeL.refl (aw_valid) rfl ?_) | fail)
  rfl
end Go.Proofs.YtbcacaodfpgflaaGreatDoor.Cw

/-
  Contracts: dice.
-/
namespace Go.Proofs.YtbcacaodfpgflaaGreatDoor.Cw
open Go.Cw Go.Proofs
set_option linter.unusedVariables false
set_option maxRecDepth 100000

def modI (a m : Int) : Int := if m < 1 then 0 else a % m

theorem tmod_mod {a m : Int} (h : 1 ≤ m) : (if a.tmod m < 0 then a.tmod m + m else a.tmod m) = a % m := by
  rw [Int.tmod_eq_emod]
  have h1 := Int.emod_nonneg a (show m ≠ 0 by omega)
  have h2 := Int.emod_lt_of_pos a (show 0 < m by omega)
  split
  · simp only [Int.ofNat_zero, Int.sub_zero]; rw [if_neg (by omega)]
  · rename_i h3
    have : (m.natAbs : Int) = m := by omega
    rw [this, if_pos (by omega)]; omega

theorem c_mod (a m : Int) (hm : m ≤ 9223372036854775807) : PCall Tryz.prog 24 [vint .i64 a, vint .i64 m] (fun r => r = vint .i64 (modI a m)) := by
  refine acall_of tok mixed 16 rfl (fn := Tryz.f24) (c := Tryz.f24.body.getD .skip) (by kernel_rfl) (by kernel_rfl) (by kernel_rfl) rfl 0 rfl ?_
  repeat' (first | refine o1 ?_ | refine o2 ?_ | refine k1 ?_ | refine k2 ?_ | refine k3 ?_ | refine k6 ?_ | refine k7 ?_ | refine And.intro ?_ ?_ | (intro h; first | exact Bool.noConfusion h | exact nz _ h | exact nl h | (simp at h; done) | (simp at h; first | (exfalso; omega) | skip) | skip) | (change retOk _ _ _ _; refine ret_pure rfl trivial ?_) | fail)
  case' refine_2.refine_2 =>
    have ht := tmod_mod (a := a) (m := m) (by omega)
    have h1 := Int.emod_nonneg a (show m ≠ 0 by omega)
    have h2 := Int.emod_lt_of_pos a (show 0 < m by omega)
    refine eqv_rfl ?_
    generalize a.tmod m = q at *
    have hq : q < 0 → q + m = a % m := fun h => by rw [if_pos h] at ht; exact ht
    repeat' (first | refine o1 ?_ | refine o2 ?_ | refine k1 ?_ | refine k2 ?_ | refine k3 ?_ | refine k6 ?_ | refine k7 ?_ | refine And.intro ?_ ?_ | (intro h; first | exact Bool.noConfusion h | exact nz _ h | exact nl h | (simp at h; done) | (simp at h; first | (exfalso; omega) | skip) | skip) | (change retOk _ _ _ _; refine ret_pure rfl trivial ?_) | refine eqv_wrap (by omega) (by omega) ?_ | fail)
  all_goals first
    | (exfalso; omega)
    | (refine congrArg (vint .i64) ?_; unfold modI; rw [if_neg (by omega)]; exact hq (by assumption))
    | (refine congrArg (vint .i64) ?_; unfold modI; rw [if_neg (by omega), ← ht, if_neg (by omega)])
    | (refine congrArg (vint .i64) ?_; unfold modI; rw [if_pos (by omega)])

def dice (t : List Int) (k : Nat) : Option AObj := some ⟨63, 2, false, .box [.pv (encInts t), vint .i64 k]⟩
def nextV (t : List Int) (k : Nat) (n : Int) : Int := match t[k]? with
  | some x => modI x n
  | none => 0
def nextK (t : List Int) (k : Nat) : Nat := if k < t.length then k + 1 else k

theorem nextV_range (t : List Int) (k : Nat) {n : Int} (h : 1 ≤ n) : 0 ≤ nextV t k n ∧ nextV t k n < n := by
  unfold nextV
  split
  · unfold modI; rw [if_neg (by omega)]; exact ⟨Int.emod_nonneg _ (by omega), Int.emod_lt_of_pos _ (by omega)⟩
  · omega

theorem c_next (t : List Int) (k : Nat) (n : Int) (ht : t.length ≤ 400) (hk : k ≤ t.length) (hn : n ≤ 9223372036854775807) :
    ACall Tryz.prog 45 [.ptr 0 2 0 0, vint .i64 n] [dice t k] (fun r H' => r = vint .i64 (nextV t k n) ∧ H' = [dice t (nextK t k)]) := by
  refine acall_of tok mixed 35 rfl (fn := Tryz.f45) (c := Tryz.f45.body.getD .skip) (by kernel_rfl) (by kernel_rfl) (by kernel_rfl) rfl 1 rfl ?_
  repeat' (first | refine o1 ?_ | refine o2 ?_ | refine k1 ?_ | refine k2 ?_ | refine k3 ?_ | refine k6 ?_ | refine k7 ?_ | refine And.intro ?_ ?_ | refine o3 ?_ | refine o4 ?_ | (intro h; first | exact Bool.noConfusion h | exact nz _ h | exact nl h | (simp at h; done) | (simp at h; first | (exfalso; omega) | skip) | skip) | exact (by kernel_rfl : drawOk _ _ = true) | refine eqv_len_map ?_ | refine eqv_wrap (by omega) (by omega) ?_ | fail)
  case' refine_1 =>
    refine ret_obj [0] [dice t (nextK t k)] rfl rfl ⟨(by rw [nextK, if_neg (by omega)]; rfl), trivial⟩ (r' := vint .i64 0) rfl ⟨?_, rfl⟩
    simp [nextV, List.getElem?_eq_none h]
  case' refine_2 =>
    obtain ⟨x, hx⟩ := getE h
    repeat' (first | refine o3 ?_ | refine idx_sl (at_map (by assumption)) (by omega) ?_ | fail)
    change vcFunD _ _ _ _ _
    refine callD_eq rfl (by repeat' (first | trivial)) ALeL.refl (c_mod x n hn) rfl ?_
    repeat' (first | refine k7 ?_ | refine And.intro ?_ ?_ | refine o3 ?_ | refine o4 ?_ | exact (by kernel_rfl : drawOk _ _ = true) | fail)
    refine ret_obj [0] [dice t (nextK t k)] rfl rfl ⟨(by rw [nextK, if_pos h]; rfl), trivial⟩ (r' := vint .i64 (modI x n)) rfl ⟨?_, rfl⟩
    simp [nextV, hx]

theorem c_one (t : List Int) (k : Nat) (n : Int) (ht : t.length ≤ 400) (hk : k ≤ t.length) (hn : n ≤ 9223372036854775807) (hn1 : 1 ≤ n) :
    ACall Tryz.prog 26 [.ptr 0 2 0 0, vint .i64 n] [dice t k] (fun r H' => r = vbool (decide (nextV t k n = n - 1)) ∧ H' = [dice t (nextK t k)]) := by
  refine acall_of tok mixed 11 rfl (fn := Tryz.f26) (c := Tryz.f26.body.getD .skip) (by kernel_rfl) (by kernel_rfl) (by kernel_rfl) rfl 1 rfl ?_
  repeat' (first | refine o1 ?_ | refine o2 ?_ | refine k1 ?_ | refine k2 ?_ | fail)
  change vcFun _ _ _ _ _
  refine call_obj [0] [dice t k] [.ptr 0 2 0 0, vint .i64 n] rfl ⟨rfl, trivial⟩ rfl (c_next t k n ht hk hn) ?_
  rintro r H' ⟨rfl, rfl⟩
  repeat' (first | refine o1 ?_ | refine o2 ?_ | refine k7 ?_ | refine And.intro ?_ ?_ | exact Nat.le_of_ble_eq_true rfl | refine eqv_wrap (by omega) (by omega) ?_ | fail)
  refine ret_obj [0] [dice t (nextK t k)] rfl rfl ⟨rfl, trivial⟩ (r' := vbool (decide (nextV t k n = n - 1))) rfl ⟨rfl, rfl⟩

def Nxt (t : List Int) (k : Nat) (n v : Int) (k2 : Nat) : Prop := ACall Tryz.prog 45 [.ptr 0 2 0 0, vint .i64 n] [dice t k] (fun r H' => r = vint .i64 v ∧ H' = [dice t k2])
theorem nextK_le {t : List Int} {k : Nat} (h : k ≤ t.length) : nextK t k ≤ t.length := by unfold nextK; split <;> omega

theorem next_ex (t : List Int) (k : Nat) (n : Int) (ht : t.length ≤ 400) (hk : k ≤ t.length) (hn : n ≤ 9223372036854775807) (h1 : 1 ≤ n) :
    ∃ v k2, 0 ≤ v ∧ v < n ∧ k2 ≤ t.length ∧ Nxt t k n v k2 :=
  ⟨_, _, (nextV_range t k h1).1, (nextV_range t k h1).2, nextK_le hk, c_next t k n ht hk hn⟩

def One (t : List Int) (k : Nat) (n : Int) (b : Bool) (k2 : Nat) : Prop := ACall Tryz.prog 26 [.ptr 0 2 0 0, vint .i64 n] [dice t k] (fun r H' => r = vbool b ∧ H' = [dice t k2])
theorem one_ex (t : List Int) (k : Nat) (n : Int) (ht : t.length ≤ 400) (hk : k ≤ t.length) (hn : n ≤ 9223372036854775807) (h1 : 1 ≤ n) :
    ∃ b k2, k2 ≤ t.length ∧ One t k n b k2 :=
  ⟨_, _, nextK_le hk, c_one t k n ht hk hn h1⟩
theorem c_roll (t : List Int) : ACall Tryz.prog 9 [.pv (encInts t)] [] (fun r H' => r = .ptr 0 2 0 0 ∧ H' = [dice t 0]) := by
  refine acall_of tok mixed 6 rfl (fn := Tryz.f9) (c := Tryz.f9.body.getD .skip) (by kernel_rfl) (by kernel_rfl) (by kernel_rfl) rfl 0 rfl ?_
  repeat' (first | refine o1 ?_ | refine o2 ?_ | refine k1 ?_ | refine k2 ?_ | refine k7 ?_ | fail)
  refine ret_obj [0] [dice t 0] rfl rfl ⟨rfl, trivial⟩ (r' := .ptr 0 2 0 0) rfl ⟨rfl, rfl⟩

theorem c_light (t : List Int) : PCall Tryz.prog 6 [.pv (encInts t)] (fun r => r = vbool (decide (t.length ≤ 400))) := by
  refine acall_of tok mixed 6 rfl (fn := Tryz.f6) (c := Tryz.f6.body.getD .skip) (by kernel_rfl) (by kernel_rfl) (by kernel_rfl) rfl 0 rfl ?_
  repeat' (first | refine o1 ?_ | refine o2 ?_ | refine k1 ?_ | refine k2 ?_ | refine k7 ?_ | (change retOk _ _ _ _; refine ret_pure rfl trivial ?_) | refine eqv_len_map ?_ | fail)
  refine congrArg vbool ?_
  simp; omega

end Go.Proofs.YtbcacaodfpgflaaGreatDoor.Cw

/-
  Dice: calls in walks.
-/
namespace Go.Proofs.YtbcacaodfpgflaaGreatDoor.Cw
open Go.Cw Go.Proofs
set_option linter.unusedVariables false
set_option maxRecDepth 100000

section
variable {t : List Int} {k : Nat} {n : Int} {H : Heap} (i : Nat)
theorem call_next {K : AV → Heap → Prop} (hi : H[i]? = some (dice t k)) (ht : t.length ≤ 400) (hk : k ≤ t.length) (h1 : 1 ≤ n) (hn : n ≤ 9223372036854775807)
    (hK : ∀ v k2, 0 ≤ v → v < n → k2 ≤ t.length → K (vint .i64 v) (H.set i (dice t k2))) : vcFun Tryz.prog 45 [.ptr i 2 0 0, vint .i64 n] H K := by
  obtain ⟨v, k2, a, b, c, hn⟩ := next_ex t k n ht hk hn h1
  refine call_one (i := i) hi (fun _ _ => rfl) [.ptr 0 2 0 0, vint .i64 n] rfl hn ?_
  rintro r H' ⟨rfl, rfl⟩
  exact ⟨_, rfl, fun _ _ => rfl, fun _ _ => rfl, hK v k2 a b c⟩
theorem call_one2 {K : AV → Heap → Prop} (hi : H[i]? = some (dice t k)) (ht : t.length ≤ 400) (hk : k ≤ t.length) (h1 : 1 ≤ n) (hn : n ≤ 9223372036854775807)
    (hK : ∀ b k2, k2 ≤ t.length → K (vbool b) (H.set i (dice t k2))) : vcFun Tryz.prog 26 [.ptr i 2 0 0, vint .i64 n] H K := by
  obtain ⟨v, k2, c, hn⟩ := one_ex t k n ht hk hn h1
  refine call_one (i := i) hi (fun _ _ => rfl) [.ptr 0 2 0 0, vint .i64 n] rfl hn ?_
  rintro r H' ⟨rfl, rfl⟩
  exact ⟨_, rfl, fun _ _ => rfl, fun _ _ => rfl, hK v k2 c⟩
theorem callD_next {K : AV → Upd → List Nat → Prop} (hi : H[i]? = some (dice t k)) (ht : t.length ≤ 400) (hk : k ≤ t.length) (h1 : 1 ≤ n) (hn : n ≤ 9223372036854775807)
    (hK : ∀ v k2, 0 ≤ v → v < n → k2 ≤ t.length → K (vint .i64 v) [(i, dice t k2)] [i]) : vcFunD Tryz.prog 45 [.ptr i 2 0 0, vint .i64 n] H K := by
  obtain ⟨v, k2, a, b, c, hn⟩ := next_ex t k n ht hk hn h1
  exact callD_one (i := i) hi (fun _ _ => rfl) [.ptr 0 2 0 0, vint .i64 n] rfl hn (fun _ _ => rfl) (fun _ _ => rfl) (hK v k2 a b c)
theorem callD_one2 {K : AV → Upd → List Nat → Prop} (hi : H[i]? = some (dice t k)) (ht : t.length ≤ 400) (hk : k ≤ t.length) (h1 : 1 ≤ n) (hn : n ≤ 9223372036854775807)
    (hK : ∀ b k2, k2 ≤ t.length → K (vbool b) [(i, dice t k2)] [i]) : vcFunD Tryz.prog 26 [.ptr i 2 0 0, vint .i64 n] H K := by
  obtain ⟨v, k2, c, hn⟩ := one_ex t k n ht hk hn h1
  exact callD_one (i := i) hi (fun _ _ => rfl) [.ptr 0 2 0 0, vint .i64 n] rfl hn (fun _ _ => rfl) (fun _ _ => rfl) (hK v k2 c)
end

theorem bytes_one {v : Int} {n m : Nat} {K : Str → Prop} (h1 : 0 ≤ v) (h2 : v < 256) (hn : n = m) (h : ∀ s, s.size = 1 → K s) : ∃ b, List.take 1 (List.drop 0 [[PV.val (.int .u8 v)]]) = bytesRows b ∧ n = m ∧ K b := by
  refine ⟨⟨#[v.toNat.toUInt8]⟩, ?_, hn, h _ rfl⟩
  have : ((v.toNat.toUInt8.toNat : Nat) : Int) = v := by
    have : v.toNat.toUInt8.toNat = v.toNat := by simp [Nat.toUInt8]; omega
    omega
  show [[PV.val (.int .u8 v)]] = [[.val (.int .u8 ((v.toNat.toUInt8.toNat : Nat) : Int))]]
  rw [this]
end Go.Proofs.YtbcacaodfpgflaaGreatDoor.Cw

/-
  Odd times, odd rooms, odd examinations.
-/
namespace Go.Proofs.YtbcacaodfpgflaaGreatDoor.Cw
open Go.Cw Go.Proofs
set_option linter.unusedVariables false
set_option maxRecDepth 100000
set_option maxHeartbeats 1600000

/-- An index by a number of dice into a list that is written out. -/
theorem lit_idx {v : Int} {n : Nat} {K : Nat → Prop} (h1 : 0 ≤ v) (h2 : v < n) (h : ∀ k, k < n → K (0 + k)) : ∃ k : Nat, v = ↑k ∧ k < n ∧ eqv (0 + k) K :=
  ⟨v.toNat, by omega, by omega, _, rfl, h _ (by omega)⟩
def intRows : List (List PV) → Bool
  | [] => true
  | [.val (.int .i64 _)] :: l => intRows l
  | _ => false
theorem lit_ex : ∀ {L : List (List PV)} {k : Nat}, intRows L = true → k < L.length → ∃ x, L[k]? = some [ei x]
  | [], k, _, h => by simp at h
  | r :: l, 0, h, _ => by
    unfold intRows at h
    split at h
    · rename_i heq; cases heq
    · rename_i heq; cases heq; exact ⟨_, rfl⟩
    · cases h
  | r :: l, k + 1, h, hk => by
    unfold intRows at h
    split at h
    · rename_i heq; cases heq
    · rename_i heq; cases heq
      obtain ⟨x, hx⟩ := lit_ex (L := l) (k := k) h (by simpa using hk)
      exact ⟨x, by simpa using hx⟩
    · cases h
theorem lit_load {L : List (List PV)} {k n : Nat} {C : List PV → Prop} (hn : n = L.length) (hk : k < n) (hL : intRows L = true) (h : ∀ x : Int, C [ei x]) : ∃ r, L[0 + k]? = some r ∧ C r := by
  obtain ⟨x, hx⟩ := lit_ex hL (by omega : k < L.length)
  exact ⟨_, by rw [Nat.zero_add]; exact hx, h x⟩

/-- A pure result, as_ it is, and objects. -/
theorem ret_same {k : Nat} {r : AV} {H : Heap} {Post : AV → Heap → Prop} (rn : List Nat) (H' : Heap) (hd : allD rn = true) (ht : rn.take k = tabl 0 k) (hk : kept H H.length rn rn H') (hr : renC H.length rn r = r) (h : Post r H') : retOk k r H Post :=
  ret_obj rn H' hd ht hk hr.symm h

theorem c_oddtime (t : List Int) (k : Nat) (ht : t.length ≤ 400) (hk : k ≤ t.length) (x : Time) :
    ACall Tryz.prog 50 [.ptr 0 2 0 0, ag x.row] [dice t k] (fun r H' => ∃ (y : Time) (k' : Nat), k' ≤ t.length ∧ r = ag y.row ∧ H' = [dice t k']) := by
  refine acall_of tok mixed 38 rfl (fn := Tryz.f50) (c := Tryz.f50.body.getD .skip) (by kernel_rfl) (by kernel_rfl) (by kernel_rfl) rfl 1 rfl ?_
  repeat' (first | (refine lit_idx (by assumption) (by assumption) (fun kx hkx => ?_)) | (refine lit_load rfl (by assumption) rfl (fun y => ?_)) | refine o1 ?_ | refine o2 ?_ | refine k1 ?_ | refine k2 ?_ | refine k3 ?_ | refine k4 ?_ | refine k6 ?_ | refine k7 ?_ | refine k8 ?_ | refine And.intro ?_ ?_ | exact trivial | refine o3 ?_ | refine o4 ?_ | refine o5 ?_ | refine o6 ?_ | refine k5 ?_ | (intro h; first | exact Bool.noConfusion h | exact nz _ h | exact nl h | (simp at h; done) | (simp at h; first | (exfalso; omega) | skip) | skip) | (change retOk _ _ _ _; refine ret_pure rfl trivial ?_) | exact (rfl : allOne _ = true) | (refine (?_ : (0 : Int) ≤ _); omega) | (refine (?_ : _ ≠ _); omega) | (refine (?_ : srcLen _ = rowsLen _); rfl) | exact Nat.le_of_ble_eq_true rfl | exact (by kernel_rfl : drawOk _ _ = true) | refine eqv_len_map ?_ | refine eqv_size ?_ | refine eqv_put (eqv_ck ?_) | refine eqv_zero ?_ | refine eqv_wrap (by omega) (by omega) ?_ | refine eqv_u64 (by omega) (by omega) ?_ | refine eqv_u8 (by omega) (by omega) ?_ | refine eqv_to _ (set_map rfl rfl) ?_ | refine ⟨_, _, (by first | rfl | assumption), at_map (by assumption), ?_⟩ | refine ⟨_, _, (by first | rfl | assumption), (by assumption), ?_⟩ | refine ⟨_, at_map (by assumption), (by decide), ?_⟩ | refine ⟨_, at_map (by assumption), ?_⟩ | (refine (?_ : _ ≤ 140737488355328); simp [rowsLen] <;> omega) | (refine (?_ : _ ≤ 9223372036854775807); simp [rowsLen] <;> omega) | (refine (?_ : _ = rowsLen _); simp [rowsLen] <;> omega) | refine eqv_to _ (app_row rfl) (eqv_to _ app_len ?_) | refine eqv_to _ (app_first rfl) (eqv_to 1 rfl ?_) | refine idx_sl (at_map (by assumption)) (by omega) ?_ | refine idx_ms _ (by first | rfl | assumption) (by first | assumption | omega) ?_ | (change vcFun _ _ _ _ _; refine call_next 0 rfl (by assumption) (by assumption) (by omega) (by omega) ?_; intro v kq hv1 hv2 hkq) | (change vcFun _ _ _ _ _; refine call_one2 0 rfl (by assumption) (by assumption) (by omega) (by omega) ?_; intro bq kq hkq) | (change vcFunD _ _ _ _ _; refine callD_next 0 rfl (by assumption) (by assumption) (by omega) (by omega) ?_; intro v kq hv1 hv2 hkq) | (change vcFunD _ _ _ _ _; refine callD_one2 0 rfl (by assumption) (by assumption) (by omega) (by omega) ?_; intro bq kq hkq) | fail)
  all_goals first
    | exact ret_same [0] [dice t kq] rfl rfl ⟨rfl, trivial⟩ rfl ⟨⟨y, x.day, x.start, x.len⟩, kq, hkq, rfl, rfl⟩
    | exact ret_same [0] [dice t kq] rfl rfl ⟨rfl, trivial⟩ rfl ⟨⟨x.weeks, y, x.start, x.len⟩, kq, hkq, rfl, rfl⟩
    | exact ret_same [0] [dice t kq] rfl rfl ⟨rfl, trivial⟩ rfl ⟨⟨x.weeks, x.day, y, x.len⟩, kq, hkq, rfl, rfl⟩
    | exact ret_same [0] [dice t kq] rfl rfl ⟨rfl, trivial⟩ rfl ⟨⟨x.weeks, x.day, x.start, y⟩, kq, hkq, rfl, rfl⟩
end Go.Proofs.YtbcacaodfpgflaaGreatDoor.Cw

/-
  Words for walks over dice: written-out lists of texts; a changed time.
-/
namespace Go.Proofs.YtbcacaodfpgflaaGreatDoor.Cw
open Go Go.Cw Go.Proofs
set_option linter.unusedVariables false
set_option maxRecDepth 100000

def strRows : List (List PV) → Bool
  | [] => true
  | [.val (.string _)] :: l => strRows l
  | _ => false
theorem lits_ex : ∀ {L : List (List PV)} {k : Nat}, strRows L = true → k < L.length → ∃ x, L[k]? = some [es x]
  | [], k, _, h => by simp at h
  | r :: l, 0, h, _ => by
    unfold strRows at h
    split at h
    · rename_i heq; cases heq
    · rename_i heq; cases heq; exact ⟨_, rfl⟩
    · cases h
  | r :: l, k + 1, h, hk => by
    unfold strRows at h
    split at h
    · rename_i heq; cases heq
    · rename_i heq; cases heq
      obtain ⟨x, hx⟩ := lits_ex (L := l) (k := k) h (by simpa using hk)
      exact ⟨x, by simpa using hx⟩
    · cases h
theorem lits_load {L : List (List PV)} {k n : Nat} {C : List PV → Prop} (hn : n = L.length) (hk : k < n) (hL : strRows L = true) (h : ∀ x : Str, C [es x]) : ∃ r, L[0 + k]? = some r ∧ C r := by
  obtain ⟨x, hx⟩ := lits_ex hL (by omega : k < L.length)
  exact ⟨_, by rw [Nat.zero_add]; exact hx, h x⟩
theorem call_oddtime {t : List Int} {k : Nat} {H : Heap} {K : AV → Heap → Prop} (i : Nat) (x : Time) (hi : H[i]? = some (dice t k)) (ht : t.length ≤ 400) (hk : k ≤ t.length)
    (hK : ∀ y k2, k2 ≤ t.length → K (ag (Time.row y)) (H.set i (dice t k2))) : vcFun Tryz.prog 50 [.ptr i 2 0 0, ag x.row] H K := by
  refine call_one (i := i) hi (fun _ _ => rfl) [.ptr 0 2 0 0, ag x.row] rfl (c_oddtime t k ht hk x) ?_
  rintro r H' ⟨y, k', h1, rfl, rfl⟩
  exact ⟨_, rfl, fun _ _ => rfl, fun _ _ => rfl, hK y k' h1⟩
end Go.Proofs.YtbcacaodfpgflaaGreatDoor.Cw

/-
  Contracts: lists of sessions by dice.
-/
namespace Go.Proofs.YtbcacaodfpgflaaGreatDoor.Cw
open Go Go.Cw Go.Proofs
set_option linter.unusedVariables false
set_option maxRecDepth 100000
set_option maxHeartbeats 8000000

theorem ret_slD {k id z ty : Nat} {rows : List (List PV)} {H : Heap} {Post : AV → Heap → Prop} (rn : List Nat) (H' : Heap) (hd : allD rn = true) (ht : rn.take k = tabl 0 k) (hk : kept H H.length rn rn H') (ho : H[id]? = some (obP ty z rows)) (hn : rn.all (fun y => !Nat.beq id y) = true)
    (h : ∀ r, ALe r (.pv (.sl z rows)) → Post r H') : retOk k (slP id z rows) H Post := by
  obtain ⟨r0, h1, h2, h3⟩ := conv_sl ho
  refine ret_conv rn H' hd ht hk h1 h2 ?_ (h r0 h3)
  cases rows with
  | nil => rfl
  | cons a l =>
    have e : ids1 H (slP id z (a :: l)) = [id] := by
      show idsC H 5 (.ms id z 0 _) = _
      simp only [idsC, ho, obP]
      rfl
    rw [e]
    simpa [disj] using hn
theorem c_weeksD (t : List Int) (k : Nat) (ht : t.length ≤ 400) (hk : k ≤ t.length) :
    ACall Tryz.prog 22 [.ptr 0 2 0 0] [dice t k] (fun r H' => ∃ (w : Int) (k' : Nat), k' ≤ t.length ∧ r = vint .i64 w ∧ H' = [dice t k']) := by
  refine acall_of tok mixed 13 rfl (fn := Tryz.f22) (c := Tryz.f22.body.getD .skip) (by kernel_rfl) (by kernel_rfl) (by kernel_rfl) rfl 1 rfl ?_
  repeat' (first | (refine lit_idx (by assumption) (by assumption) (fun kx hkx => ?_)) | (refine lit_load rfl (by assumption) rfl (fun y => ?_)) | refine o1 ?_ | refine o2 ?_ | refine k1 ?_ | refine k2 ?_ | refine k3 ?_ | refine k4 ?_ | refine k6 ?_ | refine k7 ?_ | refine k8 ?_ | refine And.intro ?_ ?_ | exact trivial | refine o3 ?_ | refine o4 ?_ | refine o5 ?_ | refine o6 ?_ | refine k5 ?_ | (intro h; first | exact Bool.noConfusion h | exact nz _ h | exact nl h | (simp at h; done) | (simp at h; first | (exfalso; omega) | skip) | skip) | (change retOk _ _ _ _; refine ret_pure rfl trivial ?_) | exact (rfl : allOne _ = true) | (refine (?_ : (0 : Int) ≤ _); omega) | (refine (?_ : _ ≠ _); omega) | (refine (?_ : srcLen _ = rowsLen _); rfl) | exact Nat.le_of_ble_eq_true rfl | exact (by kernel_rfl : drawOk _ _ = true) | refine eqv_len_map ?_ | refine eqv_size ?_ | refine eqv_put (eqv_ck ?_) | refine eqv_zero ?_ | refine eqv_wrap (by omega) (by omega) ?_ | refine eqv_u64 (by omega) (by omega) ?_ | refine eqv_u8 (by omega) (by omega) ?_ | refine eqv_to _ (set_map rfl rfl) ?_ | refine ⟨_, _, (by first | rfl | assumption), at_map (by assumption), ?_⟩ | refine ⟨_, _, (by first | rfl | assumption), (by assumption), ?_⟩ | refine ⟨_, at_map (by assumption), (by decide), ?_⟩ | refine ⟨_, at_map (by assumption), ?_⟩ | (refine (?_ : _ ≤ 140737488355328); simp [rowsLen] <;> omega) | (refine (?_ : _ ≤ 9223372036854775807); simp [rowsLen] <;> omega) | (refine (?_ : _ = rowsLen _); simp [rowsLen] <;> omega) | refine eqv_to _ (app_row rfl) (eqv_to _ app_len ?_) | refine eqv_to _ (app_first rfl) (eqv_to 1 rfl ?_) | refine idx_sl (at_map (by assumption)) (by omega) ?_ | refine idx_ms _ (by first | rfl | assumption) (by first | assumption | omega) ?_ | (change vcFun _ _ _ _ _; refine call_next 0 rfl (by assumption) (by assumption) (by omega) (by omega) ?_; intro v kq hv1 hv2 hkq) | (change vcFun _ _ _ _ _; refine call_one2 0 rfl (by assumption) (by assumption) (by omega) (by omega) ?_; intro bq kq hkq) | (change vcFunD _ _ _ _ _; refine callD_next 0 rfl (by assumption) (by assumption) (by omega) (by omega) ?_; intro v kq hv1 hv2 hkq) | (change vcFunD _ _ _ _ _; refine callD_one2 0 rfl (by assumption) (by assumption) (by omega) (by omega) ?_; intro bq kq hkq) | fail)
  all_goals first
    | (exfalso; omega)
    | exact ret_same [0] [dice t _] rfl rfl ⟨rfl, trivial⟩ rfl ⟨_, _, by assumption, rfl, rfl⟩
theorem shl_wrap {n : Int} (h : 1 ≤ n ∧ n ≤ 20) : IntKind.i64.wrap (2 ^ n.toNat - 1) = 2 ^ n.toNat - 1 := by
  have h1 := pow2_pos n.toNat
  have h2 := pow2_le (n := n.toNat) (by omega)
  exact wrap64 (by omega) (by omega)
theorem pow_two {n : Int} (h : 1 ≤ n ∧ n ≤ 20) : 2 ≤ (2 : Int) ^ n.toNat ∧ (2 : Int) ^ n.toNat ≤ 1099511627776 := by
  refine ⟨?_, pow2_le (by omega)⟩
  obtain ⟨m, hm⟩ : ∃ m, n.toNat = m + 1 := ⟨n.toNat - 1, by omega⟩
  rw [hm, Int.pow_succ]
  have := pow2_pos m
  omega
theorem shl_val {n : Int} (h : 1 ≤ n ∧ n ≤ 20) : IntKind.i64.wrap (1 * 2 ^ (min n.toNat IntKind.i64.bits)) = 2 ^ n.toNat := by
  obtain ⟨b, h1, h2⟩ := eqv_shl (n := n) (K := fun b => b = 2 ^ n.toNat) (by omega) rfl
  rw [h1, h2]
theorem c_set20 (t : List Int) (k : Nat) (ht : t.length ≤ 400) (hk : k ≤ t.length) (n : Int) (hn : 1 ≤ n ∧ n ≤ 20) :
    ACall Tryz.prog 46 [.ptr 0 2 0 0, vint .i64 n] [dice t k] (fun r H' => ∃ (w : Int) (k' : Nat), k' ≤ t.length ∧ r = vint .i64 w ∧ H' = [dice t k']) := by
  have e0 := shl_val hn
  have e1 := shl_wrap hn
  obtain ⟨q1, q2⟩ := pow_two hn
  generalize (2 : Int) ^ n.toNat = Q at *
  refine acall_of tok mixed 27 rfl (fn := Tryz.f46) (c := Tryz.f46.body.getD .skip) (by kernel_rfl) (by kernel_rfl) (by kernel_rfl) rfl 1 rfl ?_
  repeat' (first | (refine eqv_u64 (by omega) (by omega) ?_) | (refine eqv_to _ e0 ?_) | (refine eqv_to _ e1 ?_) | (refine (eqv_rfl ?_ : eqv (bits _ _ _ _) _)) | refine o1 ?_ | refine o2 ?_ | refine k1 ?_ | refine k2 ?_ | refine k3 ?_ | refine k4 ?_ | refine k6 ?_ | refine k7 ?_ | refine k8 ?_ | refine And.intro ?_ ?_ | exact trivial | refine o3 ?_ | refine o4 ?_ | refine o5 ?_ | refine o6 ?_ | refine k5 ?_ | (intro h; first | exact Bool.noConfusion h | exact nz _ h | exact nl h | (simp at h; done) | (simp at h; first | (exfalso; omega) | skip) | skip) | (change retOk _ _ _ _; refine ret_pure rfl trivial ?_) | exact (rfl : allOne _ = true) | (refine (?_ : (0 : Int) ≤ _); omega) | (refine (?_ : _ ≠ _); omega) | (refine (?_ : srcLen _ = rowsLen _); rfl) | exact Nat.le_of_ble_eq_true rfl | exact (by kernel_rfl : drawOk _ _ = true) | refine eqv_len_map ?_ | refine eqv_size ?_ | refine eqv_put (eqv_ck ?_) | refine eqv_zero ?_ | refine eqv_wrap (by omega) (by omega) ?_ | refine eqv_u64 (by omega) (by omega) ?_ | refine eqv_u8 (by omega) (by omega) ?_ | refine eqv_to _ (set_map rfl rfl) ?_ | refine ⟨_, _, (by first | rfl | assumption), at_map (by assumption), ?_⟩ | refine ⟨_, _, (by first | rfl | assumption), (by assumption), ?_⟩ | refine ⟨_, at_map (by assumption), (by decide), ?_⟩ | refine ⟨_, at_map (by assumption), ?_⟩ | (refine (?_ : _ ≤ 140737488355328); simp [rowsLen] <;> omega) | (refine (?_ : _ ≤ 9223372036854775807); simp [rowsLen] <;> omega) | (refine (?_ : _ = rowsLen _); simp [rowsLen] <;> omega) | refine eqv_to _ (app_row rfl) (eqv_to _ app_len ?_) | refine eqv_to _ (app_first rfl) (eqv_to 1 rfl ?_) | refine idx_sl (at_map (by assumption)) (by omega) ?_ | refine idx_ms _ (by first | rfl | assumption) (by first | assumption | omega) ?_ | (change vcFun _ _ _ _ _; refine call_next 0 rfl (by assumption) (by assumption) (by omega) (by omega) ?_; intro v kq hv1 hv2 hkq) | (change vcFun _ _ _ _ _; refine call_one2 0 rfl (by assumption) (by assumption) (by omega) (by omega) ?_; intro bq kq hkq) | (change vcFunD _ _ _ _ _; refine callD_next 0 rfl (by assumption) (by assumption) (by omega) (by omega) ?_; intro v kq hv1 hv2 hkq) | (change vcFunD _ _ _ _ _; refine callD_one2 0 rfl (by assumption) (by assumption) (by omega) (by omega) ?_; intro bq kq hkq) | fail)
  all_goals first
    | (exfalso; omega)
    | exact ret_same [0] [dice t _] rfl rfl ⟨rfl, trivial⟩ rfl ⟨_, _, by assumption, rfl, rfl⟩
theorem call_set {t : List Int} {k : Nat} {H : Heap} {K : AV → Heap → Prop} (i : Nat) {n : Int} (hn : 1 ≤ n ∧ n ≤ 20) (hi : H[i]? = some (dice t k)) (ht : t.length ≤ 400) (hk : k ≤ t.length)
    (hK : ∀ w k2, k2 ≤ t.length → K (vint .i64 w) (H.set i (dice t k2))) : vcFun Tryz.prog 46 [.ptr i 2 0 0, vint .i64 n] H K := by
  refine call_one (i := i) hi (fun _ _ => rfl) [.ptr 0 2 0 0, vint .i64 n] rfl (c_set20 t k ht hk n hn) ?_
  rintro r H' ⟨y, k', h1, rfl, rfl⟩
  exact ⟨_, rfl, fun _ _ => rfl, fun _ _ => rfl, hK y k' h1⟩
theorem rows_sess : ∀ {rs : List (List PV)}, (∀ q ∈ rs, ∃ s : Sess, q = s.row) → ∃ l : List Sess, rs = l.map Sess.row
  | [], _ => ⟨[], rfl⟩
  | q :: rs, h => by
    obtain ⟨s, rfl⟩ := h q (by simp)
    obtain ⟨l, rfl⟩ := rows_sess (rs := rs) fun q hq => h q (by simp [hq])
    exact ⟨s :: l, rfl⟩
theorem c_seq (t : List Int) (k : Nat) (ht : t.length ≤ 400) (hk : k ≤ t.length) (n : Int) (hn : 1 ≤ n ∧ n ≤ 20) :
    ACall Tryz.prog 23 [.ptr 0 2 0 0, vint .i64 n] [dice t k] (fun r H' => ∃ (l : List Sess) (k' : Nat), l.length ≤ 100 ∧ k' ≤ t.length ∧ ALe r (.pv (encSess l)) ∧ H' = [dice t k']) := by
  have e0 := shl_val hn
  have e1 := shl_wrap hn
  generalize (2 : Int) ^ n.toNat = Q at *
  refine acall_of tok mixed 80 rfl (fn := Tryz.f23) (c := Tryz.f23.body.getD .skip) (by kernel_rfl) (by kernel_rfl) (by kernel_rfl) rfl 1 rfl ?_
  repeat' (first | refine o1 ?_ | refine o2 ?_ | refine k1 ?_ | refine k2 ?_ | refine k3 ?_ | refine k4 ?_ | refine k6 ?_ | refine k7 ?_ | refine k8 ?_ | refine And.intro ?_ ?_ | exact trivial | refine o3 ?_ | refine o4 ?_ | refine o5 ?_ | refine o6 ?_ | refine k5 ?_ | (intro h; first | exact Bool.noConfusion h | exact nz _ h | exact nl h | (simp at h; done) | (simp at h; first | (exfalso; omega) | skip) | skip) | (change retOk _ _ _ _; refine ret_pure rfl trivial ?_) | exact (rfl : allOne _ = true) | (refine (?_ : (0 : Int) ≤ _); omega) | (refine (?_ : _ ≠ _); omega) | (refine (?_ : srcLen _ = rowsLen _); rfl) | exact Nat.le_of_ble_eq_true rfl | exact (by kernel_rfl : drawOk _ _ = true) | refine eqv_len_map ?_ | refine eqv_size ?_ | refine eqv_put (eqv_ck ?_) | refine eqv_zero ?_ | refine eqv_wrap (by omega) (by omega) ?_ | refine eqv_u64 (by omega) (by omega) ?_ | refine eqv_u8 (by omega) (by omega) ?_ | refine eqv_to _ (set_map rfl rfl) ?_ | refine ⟨_, _, (by first | rfl | assumption), at_map (by assumption), ?_⟩ | refine ⟨_, _, (by first | rfl | assumption), (by assumption), ?_⟩ | refine ⟨_, at_map (by assumption), (by decide), ?_⟩ | refine ⟨_, at_map (by assumption), ?_⟩ | (refine (?_ : _ ≤ 140737488355328); simp [rowsLen] <;> omega) | (refine (?_ : _ ≤ 9223372036854775807); simp [rowsLen] <;> omega) | (refine (?_ : _ = rowsLen _); simp [rowsLen] <;> omega) | refine eqv_to _ (app_row rfl) (eqv_to _ app_len ?_) | refine eqv_to _ (app_first rfl) (eqv_to 1 rfl ?_) | refine idx_sl (at_map (by assumption)) (by omega) ?_ | refine idx_ms _ (by first | rfl | assumption) (by first | assumption | omega) ?_ | (change vcFun _ _ _ _ _; refine call_next 0 rfl (by assumption) (by assumption) (by omega) (by omega) ?_; intro v kq hv1 hv2 hkq) | (change vcFun _ _ _ _ _; refine call_one2 0 rfl (by assumption) (by assumption) (by omega) (by omega) ?_; intro bq kq hkq) | (change vcFunD _ _ _ _ _; refine callD_next 0 rfl (by assumption) (by assumption) (by omega) (by omega) ?_; intro v kq hv1 hv2 hkq) | (change vcFunD _ _ _ _ _; refine callD_one2 0 rfl (by assumption) (by assumption) (by omega) (by omega) ?_; intro bq kq hkq) | fail)
  obtain ⟨v, rfl⟩ := Int.eq_ofNat_of_zero_le hv1
  refine loop_for (fun x : Nat × Nat × Nat × List (List PV) => [(0, .ptr 0 2 0 0), (1, vint .i64 n), (5, slP 1 6 x.2.2.2), (6, vint .i64 x.1), (7, vint .i64 x.2.1)]) (fun x => [dice t x.2.2.1, obP 51 6 x.2.2.2])
    (fun x => x.1 ≤ 4 ∧ x.2.1 + 2 * x.1 ≤ 8 ∧ x.2.2.1 ≤ t.length ∧ x.2.2.2.length + 8 * x.1 ≤ 32 ∧ ∀ q ∈ x.2.2.2, ∃ s : Sess, q = s.row) (fun x => x.1) (v, 0, kq, []) ⟨by show v ≤ 4; omega, by show 0 + 2 * v ≤ 8; omega, hkq, by show 0 + 8 * v ≤ 32; omega, fun q hq => by cases hq⟩ ?_ ?_
  · exact back [0, 1] rfl rfl (by repeat' (first | exact trivial | exact rfl | exact ren_get rfl | refine kept_ob rfl ?_ | exact ⟨_, rfl, ALe.refl⟩ | refine And.intro ?_ ?_)) (by repeat' (first | exact trivial | exact rfl | exact ren_get rfl | refine kept_ob rfl ?_ | exact ⟨_, rfl, ALe.refl⟩ | refine And.intro ?_ ?_))
  rintro ⟨m, c, kd, L⟩ ⟨c1, c2, c3, c4, c5⟩
  dsimp only at c1 c2 c3 c4 c5 ⊢
  rcases m with _ | m
  · repeat' (first | (refine fv_sl ?_) | (refine fh_ob ?_) | refine o1 ?_ | refine o2 ?_ | refine k1 ?_ | refine k2 ?_ | refine k3 ?_ | refine k4 ?_ | refine k6 ?_ | refine k7 ?_ | refine k8 ?_ | refine And.intro ?_ ?_ | exact trivial | refine o3 ?_ | refine o4 ?_ | refine o5 ?_ | refine o6 ?_ | refine k5 ?_ | (intro h; first | exact Bool.noConfusion h | exact nz _ h | exact nl h | (simp at h; done) | (simp at h; first | (exfalso; omega) | skip) | skip) | (change retOk _ _ _ _; refine ret_pure rfl trivial ?_) | exact (rfl : allOne _ = true) | (refine (?_ : (0 : Int) ≤ _); omega) | (refine (?_ : _ ≠ _); omega) | (refine (?_ : srcLen _ = rowsLen _); rfl) | exact Nat.le_of_ble_eq_true rfl | exact (by kernel_rfl : drawOk _ _ = true) | refine eqv_len_map ?_ | refine eqv_size ?_ | refine eqv_put (eqv_ck ?_) | refine eqv_zero ?_ | refine eqv_wrap (by omega) (by omega) ?_ | refine eqv_u64 (by omega) (by omega) ?_ | refine eqv_u8 (by omega) (by omega) ?_ | refine eqv_to _ (set_map rfl rfl) ?_ | refine ⟨_, _, (by first | rfl | assumption), at_map (by assumption), ?_⟩ | refine ⟨_, _, (by first | rfl | assumption), (by assumption), ?_⟩ | refine ⟨_, at_map (by assumption), (by decide), ?_⟩ | refine ⟨_, at_map (by assumption), ?_⟩ | (refine (?_ : _ ≤ 140737488355328); simp [rowsLen] <;> omega) | (refine (?_ : _ ≤ 9223372036854775807); simp [rowsLen] <;> omega) | (refine (?_ : _ = rowsLen _); simp [rowsLen] <;> omega) | refine eqv_to _ (app_row rfl) (eqv_to _ app_len ?_) | refine eqv_to _ (app_first rfl) (eqv_to 1 rfl ?_) | refine idx_sl (at_map (by assumption)) (by omega) ?_ | refine idx_ms _ (by first | rfl | assumption) (by first | assumption | omega) ?_ | fail)
    obtain ⟨l, rfl⟩ := rows_sess c5
    exact ret_slD [0] [dice t kd] rfl rfl ⟨rfl, trivial⟩ rfl rfl fun r hr => ⟨l, kd, by rw [List.length_map] at c4; omega, c3, hr, rfl⟩
  · repeat' (first | (refine fv_sl ?_) | (refine fh_ob ?_) | (refine eqv_u64 (by omega) (by omega) ?_) | (refine eqv_to _ e0 ?_) | (refine eqv_to _ e1 ?_) | refine o1 ?_ | refine o2 ?_ | refine k1 ?_ | refine k2 ?_ | refine k3 ?_ | refine k4 ?_ | refine k6 ?_ | refine k7 ?_ | refine k8 ?_ | refine And.intro ?_ ?_ | exact trivial | refine o3 ?_ | refine o4 ?_ | refine o5 ?_ | refine o6 ?_ | refine k5 ?_ | (intro h; first | exact Bool.noConfusion h | exact nz _ h | exact nl h | (simp at h; done) | (simp at h; first | (exfalso; omega) | skip) | skip) | (change retOk _ _ _ _; refine ret_pure rfl trivial ?_) | exact (rfl : allOne _ = true) | (refine (?_ : (0 : Int) ≤ _); omega) | (refine (?_ : _ ≠ _); omega) | (refine (?_ : srcLen _ = rowsLen _); rfl) | exact Nat.le_of_ble_eq_true rfl | exact (by kernel_rfl : drawOk _ _ = true) | refine eqv_len_map ?_ | refine eqv_size ?_ | refine eqv_put (eqv_ck ?_) | refine eqv_zero ?_ | refine eqv_wrap (by omega) (by omega) ?_ | refine eqv_u64 (by omega) (by omega) ?_ | refine eqv_u8 (by omega) (by omega) ?_ | refine eqv_to _ (set_map rfl rfl) ?_ | refine ⟨_, _, (by first | rfl | assumption), at_map (by assumption), ?_⟩ | refine ⟨_, _, (by first | rfl | assumption), (by assumption), ?_⟩ | refine ⟨_, at_map (by assumption), (by decide), ?_⟩ | refine ⟨_, at_map (by assumption), ?_⟩ | (refine (?_ : _ ≤ 140737488355328); simp [rowsLen] <;> omega) | (refine (?_ : _ ≤ 9223372036854775807); simp [rowsLen] <;> omega) | (refine (?_ : _ = rowsLen _); simp [rowsLen] <;> omega) | refine eqv_to _ (app_row rfl) (eqv_to _ app_len ?_) | refine eqv_to _ (app_first rfl) (eqv_to 1 rfl ?_) | refine idx_sl (at_map (by assumption)) (by omega) ?_ | refine idx_ms _ (by first | rfl | assumption) (by first | assumption | omega) ?_ | (change vcFun _ _ _ _ _; refine call_next 0 rfl (by assumption) (by assumption) (by omega) (by omega) ?_; intro v kq hv1 hv2 hkq) | (change vcFun _ _ _ _ _; refine call_one2 0 rfl (by assumption) (by assumption) (by omega) (by omega) ?_; intro bq kq hkq) | (change vcFunD _ _ _ _ _; refine callD_next 0 rfl (by assumption) (by assumption) (by omega) (by omega) ?_; intro v kq hv1 hv2 hkq) | (change vcFunD _ _ _ _ _; refine callD_one2 0 rfl (by assumption) (by assumption) (by omega) (by omega) ?_; intro bq kq hkq) | fail)
    rename_i w hw1 hw2 hwk
    obtain ⟨p, rfl⟩ := Int.eq_ofNat_of_zero_le hv1
    refine loop_for (fun x : Nat × Int × Nat × List (List PV) => [(0, .ptr 0 2 0 0), (1, vint .i64 n), (5, slP 1 6 x.2.2.2), (6, vint .i64 (m + 1 : Nat)), (7, vint .i64 c), (8, vint .i64 x.2.1), (9, vint .i64 x.1)]) (fun x => [dice t x.2.2.1, obP 51 6 x.2.2.2])
      (fun x => x.1 ≤ 3 ∧ x.2.2.1 ≤ t.length ∧ x.2.2.2.length + x.1 ≤ L.length + 3 ∧ ∀ q ∈ x.2.2.2, ∃ s : Sess, q = s.row) (fun x => x.1) (p + 1, Q - 1, kq, L) ⟨by show p + 1 ≤ 3; omega, by assumption, by show L.length + (p + 1) ≤ _; omega, c5⟩ ?_ ?_
    · exact back [0, 1] rfl rfl (by repeat' (first | exact trivial | exact rfl | exact ren_get rfl | refine kept_ob rfl ?_ | exact ⟨_, rfl, ALe.refl⟩ | refine And.intro ?_ ?_)) (by repeat' (first | exact trivial | exact rfl | exact ren_get rfl | refine kept_ob rfl ?_ | exact ⟨_, rfl, ALe.refl⟩ | (refine slot_eq rfl (congrArg (vint .i64) ?_); omega) | refine And.intro ?_ ?_))
    rintro ⟨p, left, kd, R⟩ ⟨d1, d2, d3, d4⟩
    dsimp only at d1 d2 d3 d4 ⊢
    rcases p with _ | p
    · repeat' (first | (refine fv_sl ?_) | (refine fh_ob ?_) | refine o1 ?_ | refine o2 ?_ | refine k1 ?_ | refine k2 ?_ | refine k3 ?_ | refine k4 ?_ | refine k6 ?_ | refine k7 ?_ | refine k8 ?_ | refine And.intro ?_ ?_ | exact trivial | refine o3 ?_ | refine o4 ?_ | refine o5 ?_ | refine o6 ?_ | refine k5 ?_ | (intro h; first | exact Bool.noConfusion h | exact nz _ h | exact nl h | (simp at h; done) | (simp at h; first | (exfalso; omega) | skip) | skip) | (change retOk _ _ _ _; refine ret_pure rfl trivial ?_) | exact (rfl : allOne _ = true) | (refine (?_ : (0 : Int) ≤ _); omega) | (refine (?_ : _ ≠ _); omega) | (refine (?_ : srcLen _ = rowsLen _); rfl) | exact Nat.le_of_ble_eq_true rfl | exact (by kernel_rfl : drawOk _ _ = true) | refine eqv_len_map ?_ | refine eqv_size ?_ | refine eqv_put (eqv_ck ?_) | refine eqv_zero ?_ | refine eqv_wrap (by omega) (by omega) ?_ | refine eqv_u64 (by omega) (by omega) ?_ | refine eqv_u8 (by omega) (by omega) ?_ | refine eqv_to _ (set_map rfl rfl) ?_ | refine ⟨_, _, (by first | rfl | assumption), at_map (by assumption), ?_⟩ | refine ⟨_, _, (by first | rfl | assumption), (by assumption), ?_⟩ | refine ⟨_, at_map (by assumption), (by decide), ?_⟩ | refine ⟨_, at_map (by assumption), ?_⟩ | (refine (?_ : _ ≤ 140737488355328); simp [rowsLen] <;> omega) | (refine (?_ : _ ≤ 9223372036854775807); simp [rowsLen] <;> omega) | (refine (?_ : _ = rowsLen _); simp [rowsLen] <;> omega) | refine eqv_to _ (app_row rfl) (eqv_to _ app_len ?_) | refine eqv_to _ (app_first rfl) (eqv_to 1 rfl ?_) | refine idx_sl (at_map (by assumption)) (by omega) ?_ | refine idx_ms _ (by first | rfl | assumption) (by first | assumption | omega) ?_ | (change vcFun _ _ _ _ _; refine call_next 0 rfl (by assumption) (by assumption) (by omega) (by omega) ?_; intro v kq hv1 hv2 hkq) | (change vcFun _ _ _ _ _; refine call_one2 0 rfl (by assumption) (by assumption) (by omega) (by omega) ?_; intro bq kq hkq) | (change vcFunD _ _ _ _ _; refine callD_next 0 rfl (by assumption) (by assumption) (by omega) (by omega) ?_; intro v kq hv1 hv2 hkq) | (change vcFunD _ _ _ _ _; refine callD_one2 0 rfl (by assumption) (by assumption) (by omega) (by omega) ?_; intro bq kq hkq) | fail)
      obtain ⟨v, rfl⟩ := Int.eq_ofNat_of_zero_le hv1
      exact ⟨(m, c + (1 + v), kq, R), ⟨by show m ≤ 4; omega, by show (c + (1 + v)) + 2 * m ≤ 8; omega, hkq, by show R.length + 8 * m ≤ 32; omega, d4⟩, by show m < m + 1; omega, back [0, 1] rfl rfl (by repeat' (first | exact trivial | exact rfl | exact ren_get rfl | refine kept_ob rfl ?_ | exact ⟨_, rfl, ALe.refl⟩ | refine And.intro ?_ ?_)) (by repeat' (first | exact trivial | exact rfl | exact ren_get rfl | refine kept_ob rfl ?_ | exact ⟨_, rfl, ALe.refl⟩ | (refine slot_eq rfl (congrArg (vint .i64) ?_); omega) | refine And.intro ?_ ?_))⟩
    · have fin : ∀ {Γ : Slots} {H : Heap} {x : List PV} {kq : Nat} {lf : Int}, kq ≤ t.length → (∃ s : Sess, x = s.row) → Ghost 80 1 Γ H [(0, .ptr 0 2 0 0), (1, vint .i64 n), (5, .ms 1 6 0 (R.length + 1)), (6, vint .i64 (m + 1 : Nat)), (7, vint .i64 c), (8, vint .i64 lf), (9, vint .i64 p)] [dice t kq, some ⟨51, 6, false, .p (R ++ [x])⟩] →
          ∃ y : Nat × Int × Nat × List (List PV), (y.1 ≤ 3 ∧ y.2.2.1 ≤ t.length ∧ y.2.2.2.length + y.1 ≤ L.length + 3 ∧ ∀ q ∈ y.2.2.2, ∃ s : Sess, q = s.row) ∧ y.1 < p + 1 ∧ Ghost 80 1 Γ H [(0, .ptr 0 2 0 0), (1, vint .i64 n), (5, slP 1 6 y.2.2.2), (6, vint .i64 (m + 1 : Nat)), (7, vint .i64 c), (8, vint .i64 y.2.1), (9, vint .i64 y.1)] [dice t y.2.2.1, obP 51 6 y.2.2.2] := fun {Γ H x kq lf} h1 h2 h3 =>
        ⟨(p, lf, kq, R ++ [x]), ⟨by show p ≤ 3; omega, h1, by show (R ++ [x]).length + p ≤ _; rw [List.length_append]; show R.length + 1 + p ≤ _; omega, fun q hq => (List.mem_append.1 hq).elim (d4 q) fun hq => by rw [List.mem_singleton.1 hq]; exact h2⟩, by show p < p + 1; omega, by dsimp only; rw [sl_app, ob_app]; exact h3⟩
      repeat' (first | (refine fv_sl ?_) | (refine fh_ob ?_) | ((change vcFun _ _ _ _ _; refine call_set 0 hn rfl (by assumption) (by assumption) ?_; intro wq kq hkq)) | (refine (eqv_rfl ?_ : eqv (bits _ _ _ _) _)) | (refine bytes_one (by omega) (by omega) rfl (fun s hs => ?_)) | ((show Nat.le (ByteArray.size _ + ByteArray.size _) _; rw [hs]; exact Nat.le_of_ble_eq_true rfl)) | ((refine o_app rfl rfl rfl rfl rfl rfl rfl rfl rfl rfl rfl (by omega) (by omega) ?_)) | refine o1 ?_ | refine o2 ?_ | refine k1 ?_ | refine k2 ?_ | refine k3 ?_ | refine k4 ?_ | refine k6 ?_ | refine k7 ?_ | refine k8 ?_ | refine And.intro ?_ ?_ | exact trivial | refine o3 ?_ | refine o4 ?_ | refine o5 ?_ | refine o6 ?_ | refine k5 ?_ | (intro h; first | exact Bool.noConfusion h | exact nz _ h | exact nl h | (simp at h; done) | (simp at h; first | (exfalso; omega) | skip) | skip) | (change retOk _ _ _ _; refine ret_pure rfl trivial ?_) | exact (rfl : allOne _ = true) | (refine (?_ : (0 : Int) ≤ _); omega) | (refine (?_ : _ ≠ _); omega) | (refine (?_ : srcLen _ = rowsLen _); rfl) | exact Nat.le_of_ble_eq_true rfl | exact (by kernel_rfl : drawOk _ _ = true) | refine eqv_len_map ?_ | refine eqv_size ?_ | refine eqv_put (eqv_ck ?_) | refine eqv_zero ?_ | refine eqv_wrap (by omega) (by omega) ?_ | refine eqv_u64 (by omega) (by omega) ?_ | refine eqv_u8 (by omega) (by omega) ?_ | refine eqv_to _ (set_map rfl rfl) ?_ | refine ⟨_, _, (by first | rfl | assumption), at_map (by assumption), ?_⟩ | refine ⟨_, _, (by first | rfl | assumption), (by assumption), ?_⟩ | refine ⟨_, at_map (by assumption), (by decide), ?_⟩ | refine ⟨_, at_map (by assumption), ?_⟩ | (refine (?_ : _ ≤ 140737488355328); simp [rowsLen] <;> omega) | (refine (?_ : _ ≤ 9223372036854775807); simp [rowsLen] <;> omega) | (refine (?_ : _ = rowsLen _); simp [rowsLen] <;> omega) | refine eqv_to _ (app_row rfl) (eqv_to _ app_len ?_) | refine eqv_to _ (app_first rfl) (eqv_to 1 rfl ?_) | refine idx_sl (at_map (by assumption)) (by omega) ?_ | refine idx_ms _ (by first | rfl | assumption) (by first | assumption | omega) ?_ | (change vcFun _ _ _ _ _; refine call_next 0 rfl (by assumption) (by assumption) (by omega) (by omega) ?_; intro v kq hv1 hv2 hkq) | (change vcFun _ _ _ _ _; refine call_one2 0 rfl (by assumption) (by assumption) (by omega) (by omega) ?_; intro bq kq hkq) | (change vcFunD _ _ _ _ _; refine callD_next 0 rfl (by assumption) (by assumption) (by omega) (by omega) ?_; intro v kq hv1 hv2 hkq) | (change vcFunD _ _ _ _ _; refine callD_one2 0 rfl (by assumption) (by assumption) (by omega) (by omega) ?_; intro bq kq hkq) | fail)
      all_goals try (exfalso; omega)
      · exact ⟨(p, left, kq, R), ⟨by show p ≤ 3; omega, hkq, by show R.length + p ≤ _; omega, d4⟩, by show p < p + 1; omega, back [0, 1] rfl rfl (by repeat' (first | exact trivial | exact rfl | exact ren_get rfl | refine kept_ob rfl ?_ | exact ⟨_, rfl, ALe.refl⟩ | refine And.intro ?_ ?_)) (by repeat' (first | exact trivial | exact rfl | exact ren_get rfl | refine kept_ob rfl ?_ | exact ⟨_, rfl, ALe.refl⟩ | (refine slot_eq rfl (congrArg (vint .i64) ?_); omega) | refine And.intro ?_ ?_))⟩
      · exact fin hkq ⟨⟨_, ⟨_, _, _, _⟩, _⟩, rfl⟩ (back [0, 6] rfl rfl ⟨rfl, rfl, trivial⟩ ⟨rfl, rfl, rfl, rfl, rfl, rfl, slot_eq rfl (congrArg (vint .i64) (show ((p + 1 : Nat) : Int) - 1 = (p : Int) by omega)), trivial⟩)
      · exact fin (by assumption) ⟨⟨_, ⟨_, _, _, _⟩, _⟩, rfl⟩ (back [0, 5] rfl rfl ⟨rfl, rfl, trivial⟩ ⟨rfl, rfl, rfl, rfl, rfl, rfl, slot_eq rfl (congrArg (vint .i64) (show ((p + 1 : Nat) : Int) - 1 = (p : Int) by omega)), trivial⟩)
      · obtain ⟨v, rfl⟩ := Int.eq_ofNat_of_zero_le hv1
        exact ⟨(m, c + (1 + v), kq, R), ⟨by show m ≤ 4; omega, by show (c + (1 + v)) + 2 * m ≤ 8; omega, hkq, by show R.length + 8 * m ≤ 32; omega, d4⟩, by show m < m + 1; omega, back [0, 1] rfl rfl (by repeat' (first | exact trivial | exact rfl | exact ren_get rfl | refine kept_ob rfl ?_ | exact ⟨_, rfl, ALe.refl⟩ | refine And.intro ?_ ?_)) (by repeat' (first | exact trivial | exact rfl | exact ren_get rfl | refine kept_ob rfl ?_ | exact ⟨_, rfl, ALe.refl⟩ | (refine slot_eq rfl (congrArg (vint .i64) ?_); omega) | refine And.intro ?_ ?_))⟩
theorem call_seq {t : List Int} {k : Nat} {H : Heap} {K : AV → Heap → Prop} (i : Nat) {n : Int} (hn : 1 ≤ n ∧ n ≤ 20) (hi : H[i]? = some (dice t k)) (ht : t.length ≤ 400) (hk : k ≤ t.length)
    (hK : ∀ (l : List Sess) k2, l.length ≤ 100 → k2 ≤ t.length → K (.pv (encSess l)) (H.set i (dice t k2))) : vcFun Tryz.prog 23 [.ptr i 2 0 0, vint .i64 n] H K := by
  have hc : ACall Tryz.prog 23 [.ptr 0 2 0 0, vint .i64 n] [dice t k] (fun r H' => ∃ (l : List Sess) (k' : Nat), l.length ≤ 100 ∧ k' ≤ t.length ∧ r = .pv (encSess l) ∧ H' = [dice t k']) :=
    (c_seq t k ht hk n hn).weak fun r H' ⟨l, k', h1, h2, h3, h4⟩ => ⟨.pv (encSess l), h3, l, k', h1, h2, rfl, h4⟩
  refine call_one (i := i) hi (fun _ _ => rfl) [.ptr 0 2 0 0, vint .i64 n] rfl hc ?_
  rintro r H' ⟨l, k', h1, h2, rfl, rfl⟩
  exact ⟨_, rfl, fun _ _ => rfl, fun _ _ => rfl, hK l k' h1 h2⟩
end Go.Proofs.YtbcacaodfpgflaaGreatDoor.Cw

/-
  Contracts: odd sessions by dice; the lists of the laws.
-/
namespace Go.Proofs.YtbcacaodfpgflaaGreatDoor.Cw
open Go Go.Cw Go.Proofs
set_option linter.unusedVariables false
set_option maxRecDepth 100000
set_option maxHeartbeats 8000000

theorem sess_at {l : List Sess} {k n : Nat} {C : List PV → Prop} (hn : n = l.length) (hk : k < n) (h : ∀ s : Sess, C s.row) : ∃ q, (l.map Sess.row)[0 + k]? = some q ∧ C q := by
  obtain ⟨s, hs⟩ := getE (show k < l.length by omega)
  exact ⟨s.row, by rw [Nat.zero_add, List.getElem?_map, hs]; rfl, h s⟩
theorem set_c {l : List Sess} {n : Nat} {y : Str} {s : Sess} : (l.map Sess.row).set n (splice 0 [es y] s.row) = (l.set n ⟨y, s.time, s.room⟩).map Sess.row := by rw [List.map_set]; rfl
theorem set_r {l : List Sess} {n : Nat} {y : Str} {s : Sess} : (l.map Sess.row).set n (splice 5 [es y] s.row) = (l.set n ⟨s.cls, s.time, y⟩).map Sess.row := by rw [List.map_set]; rfl
theorem set_tm {l : List Sess} {n : Nat} {y : Time} {s : Sess} : (l.map Sess.row).set n (splice 1 y.row s.row) = (l.set n ⟨s.cls, y, s.room⟩).map Sess.row := by rw [List.map_set]; rfl
theorem set_wk {l : List Sess} {n : Nat} {v : Int} {s : Sess} : (l.map Sess.row).set n (splice 1 [ei v] s.row) = (l.set n ⟨s.cls, ⟨v, s.time.day, s.time.start, s.time.len⟩, s.room⟩).map Sess.row := by rw [List.map_set]; rfl
theorem fin_odd {t : List Int} {k n : Nat} {l : List Sess} {H : Heap} {i : Nat} (hk : k ≤ t.length) (hi : i ≠ 0) (h0 : H[0]? = some (dice t k)) (hl : H[i]? = some (some ⟨51, 6, false, .p (l.map Sess.row)⟩)) (hn : n = l.length) (hb : l.length ≤ 1000) :
    retOk 1 (.ms i 6 0 n) H (fun r H' => ∃ (l : List Sess) (k' : Nat), l.length ≤ 1000 ∧ k' ≤ t.length ∧ ALe r (.pv (encSess l)) ∧ H' = [dice t k']) := by
  subst hn
  have hx : ([0] : List Nat).all (fun y => !Nat.beq i y) = true := by
    rcases i with _ | i
    · exact absurd rfl hi
    · rfl
  by_cases hL : l = []
  · subst hL
    refine ret_conv [0] [dice t k] rfl rfl ⟨h0, trivial⟩ (r0 := .pv (.sl 6 [])) ?_ ?_ ?_ ⟨[], k, hb, hk, ALe.refl, rfl⟩
    · simp [conv, conv1, convC, hl]
    · simp [ok1, ok0, okC, hl]
    · simp only [ids1, ids0, idsC, hl]
      simpa [disj] using hx
  · have e1 := sl_ne (id := i) (z := 6) (f := Sess.row) hL rfl
    have e2 := ob_ne (ty := 51) (z := 6) (f := Sess.row) hL
    rw [← e1]
    rw [← e2] at hl
    exact ret_slD [0] [dice t k] rfl rfl ⟨h0, trivial⟩ hl hx fun r hr => ⟨l, k, hb, hk, hr, rfl⟩
theorem rem26 {i : Nat} {K : Int → Prop} (h : ∀ v : Int, 0 ≤ v → v < 26 → K v) : eqv ((i : Int).tmod 26) K :=
  ⟨_, rfl, h _ (by rw [Int.tmod_eq_emod_of_nonneg (by omega)]; omega) (by rw [Int.tmod_eq_emod_of_nonneg (by omega)]; omega)⟩
theorem div26 {i : Nat} {K : Int → Prop} (hi : (i : Int) < 97) (h : ∀ v : Int, 0 ≤ v → v < 26 → K v) : eqv (IntKind.i64.wrap ((i : Int).tdiv 26)) K := by
  have e : (i : Int).tdiv 26 = (i : Int) / 26 := Int.tdiv_eq_ediv_of_nonneg (by omega)
  rw [e, wrap64 (by omega) (by omega)]
  exact ⟨_, rfl, h _ (by omega) (by omega)⟩
theorem bytes_two {v w : Int} {n m : Nat} {K : Str → Prop} (h1 : 0 ≤ v ∧ v < 256) (h2 : 0 ≤ w ∧ w < 256) (hn : n = m) (h : ∀ s, s.size = 2 → K s) : ∃ b, List.take 2 (List.drop 0 [[PV.val (.int .u8 v)], [PV.val (.int .u8 w)]]) = bytesRows b ∧ n = m ∧ K b := by
  refine ⟨⟨#[v.toNat.toUInt8, w.toNat.toUInt8]⟩, ?_, hn, h _ rfl⟩
  show [[PV.val (.int .u8 v)], [PV.val (.int .u8 w)]] = [[PV.val (.int .u8 _)], [PV.val (.int .u8 _)]]
  have e1 : ((v.toNat.toUInt8).toNat : Int) = v := by simp [UInt8.toNat_ofNat']; omega
  have e2 : ((w.toNat.toUInt8).toNat : Int) = w := by simp [UInt8.toNat_ofNat']; omega
  rw [e1, e2]
theorem app_o {R : List (List PV)} {x : List PV} {K : Go.Cw.Rows → Nat → Prop} (h : K (.p (R ++ [x])) (R.length + 1)) : eqv (Go.Cw.Rows.p (List.drop 0 R ++ List.take 1 (List.drop 0 [x]))) fun rr => eqv (rowsLen rr) (K rr) :=
  ⟨_, rfl, _, by simp [rowsLen], h⟩
theorem c_oddS (t : List Int) (k : Nat) (ht : t.length ≤ 400) (hk : k ≤ t.length) (l : List Sess) (hl : l.length ≤ 400) :
    ACall Tryz.prog 27 [.ptr 0 2 0 0, .pv (encSess l)] [dice t k] (fun r H' => ∃ (l : List Sess) (k' : Nat), l.length ≤ 1000 ∧ k' ≤ t.length ∧ ALe r (.pv (encSess l)) ∧ H' = [dice t k']) := by
  by_cases hL : l = []
  · subst hL
    refine acall_of tok mixed 104 rfl (fn := Tryz.f27) (c := Tryz.f27.body.getD .skip) (by kernel_rfl) (by kernel_rfl) (by kernel_rfl) rfl 1 rfl ?_
    repeat' (first | (refine lit_idx (by assumption) (by assumption) (fun kx hkx => ?_)) | (refine lits_load rfl (by assumption) rfl (fun y => ?_)) | refine o1 ?_ | refine o2 ?_ | refine k1 ?_ | refine k2 ?_ | refine k3 ?_ | refine k4 ?_ | refine k6 ?_ | refine k7 ?_ | refine k8 ?_ | refine And.intro ?_ ?_ | exact trivial | refine o3 ?_ | refine o4 ?_ | refine o5 ?_ | refine o6 ?_ | refine k5 ?_ | (intro h; first | exact Bool.noConfusion h | exact nz _ h | exact nl h | (simp at h; done) | (simp at h; first | (exfalso; omega) | skip) | skip) | (change retOk _ _ _ _; refine ret_pure rfl trivial ?_) | exact (rfl : allOne _ = true) | (refine (?_ : (0 : Int) ≤ _); omega) | (refine (?_ : _ ≠ _); omega) | (refine (?_ : srcLen _ = rowsLen _); rfl) | exact Nat.le_of_ble_eq_true rfl | exact (by kernel_rfl : drawOk _ _ = true) | refine eqv_len_map ?_ | refine eqv_size ?_ | refine eqv_put (eqv_ck ?_) | refine eqv_zero ?_ | refine eqv_wrap (by omega) (by omega) ?_ | refine eqv_u64 (by omega) (by omega) ?_ | refine eqv_u8 (by omega) (by omega) ?_ | refine eqv_to _ (set_map rfl rfl) ?_ | refine ⟨_, _, (by first | rfl | assumption), at_map (by assumption), ?_⟩ | refine ⟨_, _, (by first | rfl | assumption), (by assumption), ?_⟩ | refine ⟨_, at_map (by assumption), (by decide), ?_⟩ | refine ⟨_, at_map (by assumption), ?_⟩ | (refine (?_ : _ ≤ 140737488355328); simp [rowsLen] <;> omega) | (refine (?_ : _ ≤ 9223372036854775807); simp [rowsLen] <;> omega) | (refine (?_ : _ = rowsLen _); simp [rowsLen] <;> omega) | refine eqv_to _ (app_row rfl) (eqv_to _ app_len ?_) | refine eqv_to _ (app_first rfl) (eqv_to 1 rfl ?_) | refine idx_sl (at_map (by assumption)) (by omega) ?_ | refine idx_ms _ (by first | rfl | assumption) (by first | assumption | omega) ?_ | (change vcFun _ _ _ _ _; refine call_next 0 rfl (by assumption) (by assumption) (by omega) (by omega) ?_; intro v kq hv1 hv2 hkq) | (change vcFun _ _ _ _ _; refine call_one2 0 rfl (by assumption) (by assumption) (by omega) (by omega) ?_; intro bq kq hkq) | (change vcFunD _ _ _ _ _; refine callD_next 0 rfl (by assumption) (by assumption) (by omega) (by omega) ?_; intro v kq hv1 hv2 hkq) | (change vcFunD _ _ _ _ _; refine callD_one2 0 rfl (by assumption) (by assumption) (by omega) (by omega) ?_; intro bq kq hkq) | fail)
    all_goals try (exfalso; omega)
    · exact fin_odd (l := [⟨_, ⟨_, _, _, _⟩, _⟩]) (by assumption) (Nat.succ_ne_zero _) rfl rfl rfl (by simp)
  · have hlen : 0 < l.length := List.length_pos_iff.2 hL
    refine acall_of tok mixed 104 rfl (fn := Tryz.f27) (c := Tryz.f27.body.getD .skip) (by kernel_rfl) (by kernel_rfl) (by kernel_rfl) rfl 1 rfl ?_
    repeat' (first | (refine eqv_to (Rows.p (l.map Sess.row)) rfl (eqv_to l.length (by simp [rowsLen]) ?_)) | (refine lit_idx (by assumption) (by assumption) (fun kx hkx => ?_)) | (refine lits_load rfl (by assumption) rfl (fun y => ?_)) | ((refine sess_at rfl (by assumption) (fun s => ⟨(Nat.le_of_ble_eq_true rfl), ?_⟩))) | ((refine sess_at rfl (by assumption) (fun s => ?_))) | (refine eqv_to _ set_c ?_) | (refine eqv_to _ set_r ?_) | (refine eqv_to _ set_tm ?_) | (refine eqv_to _ set_wk ?_) | ((change vcFun _ _ _ _ _; refine call_oddtime 0 ⟨_, _, _, _⟩ rfl (by assumption) (by assumption) ?_; intro yt kq hkq)) | ((change vcFunD _ _ _ _ _; refine callD_next 0 rfl (by assumption) (by assumption) (by omega) (by omega) ?_; intro v kq hv1 hv2 hkq)) | refine o1 ?_ | refine o2 ?_ | refine k1 ?_ | refine k2 ?_ | refine k3 ?_ | refine k4 ?_ | refine k6 ?_ | refine k7 ?_ | refine k8 ?_ | refine And.intro ?_ ?_ | exact trivial | refine o3 ?_ | refine o4 ?_ | refine o5 ?_ | refine o6 ?_ | refine k5 ?_ | (intro h; first | exact Bool.noConfusion h | exact nz _ h | exact nl h | (simp at h; done) | (simp at h; first | (exfalso; omega) | skip) | skip) | (change retOk _ _ _ _; refine ret_pure rfl trivial ?_) | exact (rfl : allOne _ = true) | (refine (?_ : (0 : Int) ≤ _); omega) | (refine (?_ : _ ≠ _); omega) | (refine (?_ : srcLen _ = rowsLen _); rfl) | exact Nat.le_of_ble_eq_true rfl | exact (by kernel_rfl : drawOk _ _ = true) | refine eqv_len_map ?_ | refine eqv_size ?_ | refine eqv_put (eqv_ck ?_) | refine eqv_zero ?_ | refine eqv_wrap (by omega) (by omega) ?_ | refine eqv_u64 (by omega) (by omega) ?_ | refine eqv_u8 (by omega) (by omega) ?_ | refine eqv_to _ (set_map rfl rfl) ?_ | refine ⟨_, _, (by first | rfl | assumption), at_map (by assumption), ?_⟩ | refine ⟨_, _, (by first | rfl | assumption), (by assumption), ?_⟩ | refine ⟨_, at_map (by assumption), (by decide), ?_⟩ | refine ⟨_, at_map (by assumption), ?_⟩ | (refine (?_ : _ ≤ 140737488355328); simp [rowsLen] <;> omega) | (refine (?_ : _ ≤ 9223372036854775807); simp [rowsLen] <;> omega) | (refine (?_ : _ = rowsLen _); simp [rowsLen] <;> omega) | refine eqv_to _ (app_row rfl) (eqv_to _ app_len ?_) | refine eqv_to _ (app_first rfl) (eqv_to 1 rfl ?_) | refine idx_sl (at_map (by assumption)) (by omega) ?_ | refine idx_ms _ (by first | rfl | assumption) (by first | assumption | omega) ?_ | (change vcFun _ _ _ _ _; refine call_next 0 rfl (by assumption) (by assumption) (by omega) (by omega) ?_; intro v kq hv1 hv2 hkq) | (change vcFun _ _ _ _ _; refine call_one2 0 rfl (by assumption) (by assumption) (by omega) (by omega) ?_; intro bq kq hkq) | (change vcFunD _ _ _ _ _; refine callD_next 0 rfl (by assumption) (by assumption) (by omega) (by omega) ?_; intro v kq hv1 hv2 hkq) | (change vcFunD _ _ _ _ _; refine callD_one2 0 rfl (by assumption) (by assumption) (by omega) (by omega) ?_; intro bq kq hkq) | fail)
    all_goals try (exfalso; omega)
    all_goals try (exact absurd (by assumption) hL)
    all_goals try (exact absurd (show rowsLen (Rows.p (l.map Sess.row)) = 0 by assumption) (by simp [rowsLen, hL]))
    all_goals try (exact fin_odd (l := l.set _ _) (by assumption) (Nat.succ_ne_zero _) rfl rfl (by rw [List.length_set]) (by rw [List.length_set]; omega))
    · exact fin_odd (l := l ++ [_]) (by assumption) (Nat.succ_ne_zero _) rfl rfl rfl (by rw [List.length_append]; show l.length + 1 ≤ _; omega)
    rename_i kq _ _ _ _ _ _ _ _
    refine loop_for (fun x : Nat × List (List PV) => [(5, .ms 1 6 0 x.2.length), (7, vint .i64 x.1)]) (fun x => [dice t kq, some ⟨51, 6, false, .p x.2⟩])
      (fun x => x.1 ≤ 97 ∧ x.2.length ≤ 400 + x.1 ∧ ∀ q ∈ x.2, ∃ s : Sess, q = s.row) (fun x => 97 - x.1) (0, l.map Sess.row) ⟨Nat.zero_le _, by show (l.map Sess.row).length ≤ _; rw [List.length_map]; omega, fun q hq => by obtain ⟨s, _, rfl⟩ := List.mem_map.1 hq; exact ⟨s, rfl⟩⟩ ?_ ?_
    · refine back [0, 1] rfl rfl ⟨rfl, rfl, trivial⟩ ?_
      dsimp only
      rw [List.length_map]
      repeat' (first | exact trivial | exact rfl | exact ren_get rfl | refine kept_ob rfl ?_ | exact ⟨_, rfl, ALe.refl⟩ | refine And.intro ?_ ?_)
    have fin : ∀ {Γ : Slots} {H : Heap} {x : List PV} {R : List (List PV)} {i : Nat}, (∃ s : Sess, x = s.row) → i ≤ 97 → R.length ≤ 400 + i → (∀ q ∈ R, ∃ s : Sess, q = s.row) → (i : Int) < 97 → Ghost 104 1 Γ H [(5, .ms 1 6 0 (R.length + 1)), (7, vint .i64 (i + 1 : Nat))] [dice t kq, some ⟨51, 6, false, .p (R ++ [x])⟩] →
        ∃ y : Nat × List (List PV), (y.1 ≤ 97 ∧ y.2.length ≤ 400 + y.1 ∧ ∀ q ∈ y.2, ∃ s : Sess, q = s.row) ∧ 97 - y.1 < 97 - i ∧ Ghost 104 1 Γ H [(5, .ms 1 6 0 y.2.length), (7, vint .i64 y.1)] [dice t kq, some ⟨51, 6, false, .p y.2⟩] := fun {Γ H x R i} h1 d1 d2 d3 h2 h3 =>
      ⟨(i + 1, R ++ [x]), ⟨by show i + 1 ≤ 97; omega, by show (R ++ [x]).length ≤ _; rw [List.length_append]; show R.length + 1 ≤ 400 + (i + 1); omega, fun q hq => (List.mem_append.1 hq).elim (d3 q) fun hq => by rw [List.mem_singleton.1 hq]; exact h1⟩, by show 97 - (i + 1) < 97 - i; omega, by dsimp only; rw [List.length_append]; exact h3⟩
    rintro ⟨i, R⟩ ⟨d1, d2, d3⟩
    dsimp only at d1 d2 d3 ⊢
    repeat' (first | (refine rem26 (fun v1 hv11 hv12 => ?_)) | (refine div26 (by assumption) (fun v2 hv21 hv22 => ?_)) | (refine bytes_two (by omega) (by omega) rfl (fun s hs => ?_)) | ((show Nat.le (ByteArray.size _ + ByteArray.size _) _; rw [hs]; exact Nat.le_of_ble_eq_true rfl)) | (refine app_o ?_) | refine o1 ?_ | refine o2 ?_ | refine k1 ?_ | refine k2 ?_ | refine k3 ?_ | refine k4 ?_ | refine k6 ?_ | refine k7 ?_ | refine k8 ?_ | refine And.intro ?_ ?_ | exact trivial | refine o3 ?_ | refine o4 ?_ | refine o5 ?_ | refine o6 ?_ | refine k5 ?_ | (intro h; first | exact Bool.noConfusion h | exact nz _ h | exact nl h | (simp at h; done) | (simp at h; first | (exfalso; omega) | skip) | skip) | (change retOk _ _ _ _; refine ret_pure rfl trivial ?_) | exact (rfl : allOne _ = true) | (refine (?_ : (0 : Int) ≤ _); omega) | (refine (?_ : _ ≠ _); omega) | (refine (?_ : srcLen _ = rowsLen _); rfl) | exact Nat.le_of_ble_eq_true rfl | exact (by kernel_rfl : drawOk _ _ = true) | refine eqv_len_map ?_ | refine eqv_size ?_ | refine eqv_put (eqv_ck ?_) | refine eqv_zero ?_ | refine eqv_wrap (by omega) (by omega) ?_ | refine eqv_u64 (by omega) (by omega) ?_ | refine eqv_u8 (by omega) (by omega) ?_ | refine eqv_to _ (set_map rfl rfl) ?_ | refine ⟨_, _, (by first | rfl | assumption), at_map (by assumption), ?_⟩ | refine ⟨_, _, (by first | rfl | assumption), (by assumption), ?_⟩ | refine ⟨_, at_map (by assumption), (by decide), ?_⟩ | refine ⟨_, at_map (by assumption), ?_⟩ | (refine (?_ : _ ≤ 140737488355328); simp [rowsLen] <;> omega) | (refine (?_ : _ ≤ 9223372036854775807); simp [rowsLen] <;> omega) | (refine (?_ : _ = rowsLen _); simp [rowsLen] <;> omega) | refine eqv_to _ (app_row rfl) (eqv_to _ app_len ?_) | refine eqv_to _ (app_first rfl) (eqv_to 1 rfl ?_) | refine idx_sl (at_map (by assumption)) (by omega) ?_ | refine idx_ms _ (by first | rfl | assumption) (by first | assumption | omega) ?_ | fail)
    all_goals try (exfalso; omega)
    · exact fin (i := i) ⟨⟨_, ⟨_, _, _, _⟩, _⟩, rfl⟩ d1 d2 d3 (by assumption) (back [0, 4] rfl rfl ⟨rfl, rfl, trivial⟩ ⟨rfl, rfl, trivial⟩)
    · obtain ⟨L, rfl⟩ := rows_sess d3
      rw [List.length_map] at d2 ⊢
      exact fin_odd (by assumption) (Nat.succ_ne_zero _) rfl rfl rfl (by omega)
theorem call_oddS {t : List Int} {k : Nat} {l : List Sess} {H : Heap} {K : AV → Heap → Prop} (i : Nat) (hi : H[i]? = some (dice t k)) (ht : t.length ≤ 400) (hk : k ≤ t.length) (hl : l.length ≤ 400)
    (hK : ∀ (l : List Sess) k2, l.length ≤ 1000 → k2 ≤ t.length → K (.pv (encSess l)) (H.set i (dice t k2))) : vcFun Tryz.prog 27 [.ptr i 2 0 0, .pv (encSess l)] H K := by
  have hc : ACall Tryz.prog 27 [.ptr 0 2 0 0, .pv (encSess l)] [dice t k] (fun r H' => ∃ (l : List Sess) (k' : Nat), l.length ≤ 1000 ∧ k' ≤ t.length ∧ r = .pv (encSess l) ∧ H' = [dice t k']) :=
    (c_oddS t k ht hk l hl).weak fun r H' ⟨l, k', h1, h2, h3, h4⟩ => ⟨.pv (encSess l), h3, l, k', h1, h2, rfl, h4⟩
  refine call_one (i := i) hi (fun _ _ => rfl) [.ptr 0 2 0 0, .pv (encSess l)] rfl hc ?_
  rintro r H' ⟨l, k', h1, h2, rfl, rfl⟩
  exact ⟨_, rfl, fun _ _ => rfl, fun _ _ => rfl, hK l k' h1 h2⟩
theorem call_weeks {t : List Int} {k : Nat} {H : Heap} {K : AV → Heap → Prop} (i : Nat) (hi : H[i]? = some (dice t k)) (ht : t.length ≤ 400) (hk : k ≤ t.length)
    (hK : ∀ (w : Int) k2, k2 ≤ t.length → K (vint .i64 w) (H.set i (dice t k2))) : vcFun Tryz.prog 22 [.ptr i 2 0 0] H K := by
  refine call_one (i := i) hi (fun _ _ => rfl) [.ptr 0 2 0 0] rfl (c_weeksD t k ht hk) ?_
  rintro r H' ⟨w, k', h1, rfl, rfl⟩
  exact ⟨_, rfl, fun _ _ => rfl, fun _ _ => rfl, hK w k' h1⟩
end Go.Proofs.YtbcacaodfpgflaaGreatDoor.Cw

/-
  Contracts: the lists of the laws.
-/
namespace Go.Proofs.YtbcacaodfpgflaaGreatDoor.Cw
open Go Go.Cw Go.Proofs
set_option linter.unusedVariables false
set_option maxRecDepth 100000
set_option maxHeartbeats 8000000

theorem mod8 (w : Int) : 0 ≤ modI w 8 ∧ modI w 8 < 8 := by
  unfold modI; omega
def nilC : AV := .pv (.val (.slice none 0 0))
def celC (j i : Nat) (l : List Sess) : AV := cond (Nat.blt j i) (.pv (encSess l)) nilC
def boxC (i : Nat) (a b c : List Sess) : Option AObj := some ⟨27, 3, false, .box [celC 0 i a, celC 1 i b, celC 2 i c]⟩
theorem call_rnorm {l : List Sess} {w : Int} {H : Heap} {K : AV → Heap → Prop} (hl : l.length ≤ 1000000000) (hK : K (.tup [.pv (encSess (normV l w)), vint .i64 (normE l w)]) H) : vcFun Tryz.prog 25 [.pv (encSess l), vint .i64 w] H K := by
  refine call_frz (as0 := [.pv (encSess l), vint .i64 w]) rfl (by repeat' (first | trivial | refine And.intro ?_ ?_ | (show 0 + _ ≤ List.length _; simp))) ALeL.refl (c_rnorm l w hl) ?_
  rintro r rfl
  exact hK
theorem norm_len {l : List Sess} {w : Int} (h : normE l w = 0) : (normV l w).length ≤ 96 := by
  unfold normV
  rw [if_pos h, ord_len]
  exact (norm_parts h).2.2.2
theorem c_lists (t : List Int) (ht : t.length ≤ 400) :
    ACall Tryz.prog 8 [.ptr 0 2 0 0] [dice t 0] (fun r H' => ∃ (w : Int) (a b c : List Sess) (k' : Nat), a.length ≤ 1000 ∧ b.length ≤ 1000 ∧ c.length ≤ 1000 ∧ k' ≤ t.length ∧ r = .tup [vint .i64 w, .agg [.pv (encSess a), .pv (encSess b), .pv (encSess c)]] ∧ H' = [dice t k']) := by
  refine acall_of tok mixed 54 rfl (fn := Tryz.f8) (c := Tryz.f8.body.getD .skip) (by kernel_rfl) (by kernel_rfl) (by kernel_rfl) rfl 1 rfl ?_
  repeat' (first | ((change vcFun _ _ _ _ _; refine call_weeks 0 rfl (by assumption) (Nat.zero_le _) ?_; intro w kq hkq)) | refine o1 ?_ | refine o2 ?_ | refine k1 ?_ | refine k2 ?_ | refine k3 ?_ | refine k4 ?_ | refine k6 ?_ | refine k7 ?_ | refine k8 ?_ | refine And.intro ?_ ?_ | exact trivial | refine o3 ?_ | refine o4 ?_ | refine o5 ?_ | refine o6 ?_ | refine k5 ?_ | (intro h; first | exact Bool.noConfusion h | exact nz _ h | exact nl h | (simp at h; done) | (simp at h; first | (exfalso; omega) | skip) | skip) | (change retOk _ _ _ _; refine ret_pure rfl trivial ?_) | exact (rfl : allOne _ = true) | (refine (?_ : (0 : Int) ≤ _); omega) | (refine (?_ : _ ≠ _); omega) | (refine (?_ : srcLen _ = rowsLen _); rfl) | exact Nat.le_of_ble_eq_true rfl | exact (by kernel_rfl : drawOk _ _ = true) | refine eqv_len_map ?_ | refine eqv_size ?_ | refine eqv_put (eqv_ck ?_) | refine eqv_zero ?_ | refine eqv_wrap (by omega) (by omega) ?_ | refine eqv_u64 (by omega) (by omega) ?_ | refine eqv_u8 (by omega) (by omega) ?_ | refine eqv_to _ (set_map rfl rfl) ?_ | refine ⟨_, _, (by first | rfl | assumption), at_map (by assumption), ?_⟩ | refine ⟨_, _, (by first | rfl | assumption), (by assumption), ?_⟩ | refine ⟨_, at_map (by assumption), (by decide), ?_⟩ | refine ⟨_, at_map (by assumption), ?_⟩ | (refine (?_ : _ ≤ 140737488355328); simp [rowsLen] <;> omega) | (refine (?_ : _ ≤ 9223372036854775807); simp [rowsLen] <;> omega) | (refine (?_ : _ = rowsLen _); simp [rowsLen] <;> omega) | refine eqv_to _ (app_row rfl) (eqv_to _ app_len ?_) | refine eqv_to _ (app_first rfl) (eqv_to 1 rfl ?_) | refine idx_sl (at_map (by assumption)) (by omega) ?_ | refine idx_ms _ (by first | rfl | assumption) (by first | assumption | omega) ?_ | (change vcFun _ _ _ _ _; refine call_next 0 rfl (by assumption) (by assumption) (by omega) (by omega) ?_; intro v kq hv1 hv2 hkq) | (change vcFun _ _ _ _ _; refine call_one2 0 rfl (by assumption) (by assumption) (by omega) (by omega) ?_; intro bq kq hkq) | (change vcFunD _ _ _ _ _; refine callD_next 0 rfl (by assumption) (by assumption) (by omega) (by omega) ?_; intro v kq hv1 hv2 hkq) | (change vcFunD _ _ _ _ _; refine callD_one2 0 rfl (by assumption) (by assumption) (by omega) (by omega) ?_; intro bq kq hkq) | fail)
  have hm := c_mod w 8 (by omega)
  obtain ⟨m1, m2⟩ := mod8 w
  refine loop_for (fun x : Nat × Nat × List Sess × List Sess × List Sess => [(0, .ptr 0 2 0 0), (2, vint .i64 0), (3, .ptr 1 3 0 0), (4, vint .i64 w), (5, .ptr 2 3 0 0), (6, vint .i64 x.1)]) (fun x => [dice t x.2.1, boxC 0 [] [] [], boxC x.1 x.2.2.1 x.2.2.2.1 x.2.2.2.2])
    (fun x => x.1 ≤ 3 ∧ x.2.1 ≤ t.length ∧ x.2.2.1.length ≤ 1000 ∧ x.2.2.2.1.length ≤ 1000 ∧ x.2.2.2.2.length ≤ 1000) (fun x => 3 - x.1) (0, kq, [], [], []) ⟨Nat.zero_le _, hkq, Nat.zero_le _, Nat.zero_le _, Nat.zero_le _⟩ ?_ ?_
  · exact back [0, 1, 2] rfl rfl ⟨rfl, rfl, rfl, trivial⟩ (by repeat' (first | exact trivial | exact rfl | exact ren_get rfl | refine kept_ob rfl ?_ | exact ⟨_, rfl, ALe.refl⟩ | refine And.intro ?_ ?_))
  rintro ⟨i, kd, a, b, c⟩ ⟨d1, d2, d3, d4, d5⟩
  dsimp only at d1 d2 d3 d4 d5 ⊢
  rcases i with _ | _ | _ | _ | i
  · have fin : ∀ {Γ : Slots} {H : Heap} {l : List Sess} {kq : Nat}, l.length ≤ 1000 → kq ≤ t.length → Ghost 54 1 Γ H [(0, .ptr 0 2 0 0), (2, vint .i64 0), (3, .ptr 1 3 0 0), (4, vint .i64 w), (5, .ptr 2 3 0 0), (6, vint .i64 (1 : Nat))] [dice t kq, boxC 0 [] [] [], boxC 1 l b c] →
        ∃ x : Nat × Nat × List Sess × List Sess × List Sess, (x.1 ≤ 3 ∧ x.2.1 ≤ t.length ∧ x.2.2.1.length ≤ 1000 ∧ x.2.2.2.1.length ≤ 1000 ∧ x.2.2.2.2.length ≤ 1000) ∧ 3 - x.1 < 3 - 0 ∧ Ghost 54 1 Γ H [(0, .ptr 0 2 0 0), (2, vint .i64 0), (3, .ptr 1 3 0 0), (4, vint .i64 w), (5, .ptr 2 3 0 0), (6, vint .i64 x.1)] [dice t x.2.1, boxC 0 [] [] [], boxC x.1 x.2.2.1 x.2.2.2.1 x.2.2.2.2] := fun {Γ H l kq} h1 h2 h3 =>
      ⟨(1, kq, l, b, c), ⟨Nat.le_of_ble_eq_true rfl, h2, h1, d4, d5⟩, Nat.le_of_ble_eq_true rfl, h3⟩
    repeat' (first | ((refine ⟨_, rfl, Nat.le_of_ble_eq_true rfl, ?_⟩)) | ((change vcFun _ _ _ _ _; refine call_seq 0 (by omega) rfl (by assumption) (by assumption) ?_; intro l kl hl hkl)) | ((change vcFun _ _ _ _ _; refine call_rnorm (by omega) ?_)) | ((change vcFunD _ _ _ _ _; refine callD_one2 0 rfl (by assumption) (by assumption) (by omega) (by omega) ?_; intro bb kb hkb)) | ((change vcFun _ _ _ _ _; refine call_one2 0 rfl (by assumption) (by assumption) (by omega) (by omega) ?_; intro bb kb hkb)) | ((change vcFun _ _ _ _ _; refine call_oddS 0 rfl (by assumption) (by assumption) (by first | omega | exact Nat.le_trans (norm_len (by assumption)) (by omega)) ?_; intro lo ko hlo hko)) | refine o1 ?_ | refine o2 ?_ | refine k1 ?_ | refine k2 ?_ | refine k3 ?_ | refine k4 ?_ | refine k6 ?_ | refine k7 ?_ | refine k8 ?_ | refine And.intro ?_ ?_ | exact trivial | refine o3 ?_ | refine o4 ?_ | refine o5 ?_ | refine o6 ?_ | refine k5 ?_ | (intro h; first | exact Bool.noConfusion h | exact nz _ h | exact nl h | (simp at h; done) | (simp at h; first | (exfalso; omega) | skip) | skip) | (change retOk _ _ _ _; refine ret_pure rfl trivial ?_) | exact (rfl : allOne _ = true) | (refine (?_ : (0 : Int) ≤ _); omega) | (refine (?_ : _ ≠ _); omega) | (refine (?_ : srcLen _ = rowsLen _); rfl) | exact Nat.le_of_ble_eq_true rfl | exact (by kernel_rfl : drawOk _ _ = true) | refine eqv_len_map ?_ | refine eqv_size ?_ | refine eqv_put (eqv_ck ?_) | refine eqv_zero ?_ | refine eqv_wrap (by omega) (by omega) ?_ | refine eqv_u64 (by omega) (by omega) ?_ | refine eqv_u8 (by omega) (by omega) ?_ | refine eqv_to _ (set_map rfl rfl) ?_ | refine ⟨_, _, (by first | rfl | assumption), at_map (by assumption), ?_⟩ | refine ⟨_, _, (by first | rfl | assumption), (by assumption), ?_⟩ | refine ⟨_, at_map (by assumption), (by decide), ?_⟩ | refine ⟨_, at_map (by assumption), ?_⟩ | (refine (?_ : _ ≤ 140737488355328); simp [rowsLen] <;> omega) | (refine (?_ : _ ≤ 9223372036854775807); simp [rowsLen] <;> omega) | (refine (?_ : _ = rowsLen _); simp [rowsLen] <;> omega) | refine eqv_to _ (app_row rfl) (eqv_to _ app_len ?_) | refine eqv_to _ (app_first rfl) (eqv_to 1 rfl ?_) | refine idx_sl (at_map (by assumption)) (by omega) ?_ | refine idx_ms _ (by first | rfl | assumption) (by first | assumption | omega) ?_ | (change vcFun _ _ _ _ _; refine call_eq rfl (by repeat' (first | trivial | refine And.intro ?_ ?_ | (show 0 + _ ≤ List.length _; simp))) ALeL.refl (hm) rfl ?_) | fail)
    all_goals try (exfalso; omega)
    all_goals exact fin (by first | omega | exact Nat.le_trans (norm_len (by assumption)) (by omega)) (by assumption) (back [0, 1, 2] rfl rfl ⟨rfl, rfl, rfl, trivial⟩ (by repeat' (first | exact trivial | exact rfl | exact ren_get rfl | refine kept_ob rfl ?_ | exact ⟨_, rfl, ALe.refl⟩ | (refine slot_eq rfl (congrArg (vint .i64) ?_); omega) | refine And.intro ?_ ?_)))
  · have fin : ∀ {Γ : Slots} {H : Heap} {l : List Sess} {kq : Nat}, l.length ≤ 1000 → kq ≤ t.length → Ghost 54 1 Γ H [(0, .ptr 0 2 0 0), (2, vint .i64 0), (3, .ptr 1 3 0 0), (4, vint .i64 w), (5, .ptr 2 3 0 0), (6, vint .i64 (2 : Nat))] [dice t kq, boxC 0 [] [] [], boxC 2 a l c] →
        ∃ x : Nat × Nat × List Sess × List Sess × List Sess, (x.1 ≤ 3 ∧ x.2.1 ≤ t.length ∧ x.2.2.1.length ≤ 1000 ∧ x.2.2.2.1.length ≤ 1000 ∧ x.2.2.2.2.length ≤ 1000) ∧ 3 - x.1 < 3 - 1 ∧ Ghost 54 1 Γ H [(0, .ptr 0 2 0 0), (2, vint .i64 0), (3, .ptr 1 3 0 0), (4, vint .i64 w), (5, .ptr 2 3 0 0), (6, vint .i64 x.1)] [dice t x.2.1, boxC 0 [] [] [], boxC x.1 x.2.2.1 x.2.2.2.1 x.2.2.2.2] := fun {Γ H l kq} h1 h2 h3 =>
      ⟨(2, kq, a, l, c), ⟨Nat.le_of_ble_eq_true rfl, h2, d3, h1, d5⟩, Nat.le_of_ble_eq_true rfl, h3⟩
    repeat' (first | ((refine ⟨_, rfl, Nat.le_of_ble_eq_true rfl, ?_⟩)) | ((change vcFun _ _ _ _ _; refine call_seq 0 (by omega) rfl (by assumption) (by assumption) ?_; intro l kl hl hkl)) | ((change vcFun _ _ _ _ _; refine call_rnorm (by omega) ?_)) | ((change vcFunD _ _ _ _ _; refine callD_one2 0 rfl (by assumption) (by assumption) (by omega) (by omega) ?_; intro bb kb hkb)) | ((change vcFun _ _ _ _ _; refine call_one2 0 rfl (by assumption) (by assumption) (by omega) (by omega) ?_; intro bb kb hkb)) | ((change vcFun _ _ _ _ _; refine call_oddS 0 rfl (by assumption) (by assumption) (by first | omega | exact Nat.le_trans (norm_len (by assumption)) (by omega)) ?_; intro lo ko hlo hko)) | refine o1 ?_ | refine o2 ?_ | refine k1 ?_ | refine k2 ?_ | refine k3 ?_ | refine k4 ?_ | refine k6 ?_ | refine k7 ?_ | refine k8 ?_ | refine And.intro ?_ ?_ | exact trivial | refine o3 ?_ | refine o4 ?_ | refine o5 ?_ | refine o6 ?_ | refine k5 ?_ | (intro h; first | exact Bool.noConfusion h | exact nz _ h | exact nl h | (simp at h; done) | (simp at h; first | (exfalso; omega) | skip) | skip) | (change retOk _ _ _ _; refine ret_pure rfl trivial ?_) | exact (rfl : allOne _ = true) | (refine (?_ : (0 : Int) ≤ _); omega) | (refine (?_ : _ ≠ _); omega) | (refine (?_ : srcLen _ = rowsLen _); rfl) | exact Nat.le_of_ble_eq_true rfl | exact (by kernel_rfl : drawOk _ _ = true) | refine eqv_len_map ?_ | refine eqv_size ?_ | refine eqv_put (eqv_ck ?_) | refine eqv_zero ?_ | refine eqv_wrap (by omega) (by omega) ?_ | refine eqv_u64 (by omega) (by omega) ?_ | refine eqv_u8 (by omega) (by omega) ?_ | refine eqv_to _ (set_map rfl rfl) ?_ | refine ⟨_, _, (by first | rfl | assumption), at_map (by assumption), ?_⟩ | refine ⟨_, _, (by first | rfl | assumption), (by assumption), ?_⟩ | refine ⟨_, at_map (by assumption), (by decide), ?_⟩ | refine ⟨_, at_map (by assumption), ?_⟩ | (refine (?_ : _ ≤ 140737488355328); simp [rowsLen] <;> omega) | (refine (?_ : _ ≤ 9223372036854775807); simp [rowsLen] <;> omega) | (refine (?_ : _ = rowsLen _); simp [rowsLen] <;> omega) | refine eqv_to _ (app_row rfl) (eqv_to _ app_len ?_) | refine eqv_to _ (app_first rfl) (eqv_to 1 rfl ?_) | refine idx_sl (at_map (by assumption)) (by omega) ?_ | refine idx_ms _ (by first | rfl | assumption) (by first | assumption | omega) ?_ | (change vcFun _ _ _ _ _; refine call_eq rfl (by repeat' (first | trivial | refine And.intro ?_ ?_ | (show 0 + _ ≤ List.length _; simp))) ALeL.refl (hm) rfl ?_) | fail)
    all_goals try (exfalso; omega)
    all_goals exact fin (by first | omega | exact Nat.le_trans (norm_len (by assumption)) (by omega)) (by assumption) (back [0, 1, 2] rfl rfl ⟨rfl, rfl, rfl, trivial⟩ (by repeat' (first | exact trivial | exact rfl | exact ren_get rfl | refine kept_ob rfl ?_ | exact ⟨_, rfl, ALe.refl⟩ | (refine slot_eq rfl (congrArg (vint .i64) ?_); omega) | refine And.intro ?_ ?_)))
  · have fin : ∀ {Γ : Slots} {H : Heap} {l : List Sess} {kq : Nat}, l.length ≤ 1000 → kq ≤ t.length → Ghost 54 1 Γ H [(0, .ptr 0 2 0 0), (2, vint .i64 0), (3, .ptr 1 3 0 0), (4, vint .i64 w), (5, .ptr 2 3 0 0), (6, vint .i64 (3 : Nat))] [dice t kq, boxC 0 [] [] [], boxC 3 a b l] →
        ∃ x : Nat × Nat × List Sess × List Sess × List Sess, (x.1 ≤ 3 ∧ x.2.1 ≤ t.length ∧ x.2.2.1.length ≤ 1000 ∧ x.2.2.2.1.length ≤ 1000 ∧ x.2.2.2.2.length ≤ 1000) ∧ 3 - x.1 < 3 - 2 ∧ Ghost 54 1 Γ H [(0, .ptr 0 2 0 0), (2, vint .i64 0), (3, .ptr 1 3 0 0), (4, vint .i64 w), (5, .ptr 2 3 0 0), (6, vint .i64 x.1)] [dice t x.2.1, boxC 0 [] [] [], boxC x.1 x.2.2.1 x.2.2.2.1 x.2.2.2.2] := fun {Γ H l kq} h1 h2 h3 =>
      ⟨(3, kq, a, b, l), ⟨Nat.le_of_ble_eq_true rfl, h2, d3, d4, h1⟩, Nat.le_of_ble_eq_true rfl, h3⟩
    repeat' (first | ((refine ⟨_, rfl, Nat.le_of_ble_eq_true rfl, ?_⟩)) | ((change vcFun _ _ _ _ _; refine call_seq 0 (by omega) rfl (by assumption) (by assumption) ?_; intro l kl hl hkl)) | ((change vcFun _ _ _ _ _; refine call_rnorm (by omega) ?_)) | ((change vcFunD _ _ _ _ _; refine callD_one2 0 rfl (by assumption) (by assumption) (by omega) (by omega) ?_; intro bb kb hkb)) | ((change vcFun _ _ _ _ _; refine call_one2 0 rfl (by assumption) (by assumption) (by omega) (by omega) ?_; intro bb kb hkb)) | ((change vcFun _ _ _ _ _; refine call_oddS 0 rfl (by assumption) (by assumption) (by first | omega | exact Nat.le_trans (norm_len (by assumption)) (by omega)) ?_; intro lo ko hlo hko)) | refine o1 ?_ | refine o2 ?_ | refine k1 ?_ | refine k2 ?_ | refine k3 ?_ | refine k4 ?_ | refine k6 ?_ | refine k7 ?_ | refine k8 ?_ | refine And.intro ?_ ?_ | exact trivial | refine o3 ?_ | refine o4 ?_ | refine o5 ?_ | refine o6 ?_ | refine k5 ?_ | (intro h; first | exact Bool.noConfusion h | exact nz _ h | exact nl h | (simp at h; done) | (simp at h; first | (exfalso; omega) | skip) | skip) | (change retOk _ _ _ _; refine ret_pure rfl trivial ?_) | exact (rfl : allOne _ = true) | (refine (?_ : (0 : Int) ≤ _); omega) | (refine (?_ : _ ≠ _); omega) | (refine (?_ : srcLen _ = rowsLen _); rfl) | exact Nat.le_of_ble_eq_true rfl | exact (by kernel_rfl : drawOk _ _ = true) | refine eqv_len_map ?_ | refine eqv_size ?_ | refine eqv_put (eqv_ck ?_) | refine eqv_zero ?_ | refine eqv_wrap (by omega) (by omega) ?_ | refine eqv_u64 (by omega) (by omega) ?_ | refine eqv_u8 (by omega) (by omega) ?_ | refine eqv_to _ (set_map rfl rfl) ?_ | refine ⟨_, _, (by first | rfl | assumption), at_map (by assumption), ?_⟩ | refine ⟨_, _, (by first | rfl | assumption), (by assumption), ?_⟩ | refine ⟨_, at_map (by assumption), (by decide), ?_⟩ | refine ⟨_, at_map (by assumption), ?_⟩ | (refine (?_ : _ ≤ 140737488355328); simp [rowsLen] <;> omega) | (refine (?_ : _ ≤ 9223372036854775807); simp [rowsLen] <;> omega) | (refine (?_ : _ = rowsLen _); simp [rowsLen] <;> omega) | refine eqv_to _ (app_row rfl) (eqv_to _ app_len ?_) | refine eqv_to _ (app_first rfl) (eqv_to 1 rfl ?_) | refine idx_sl (at_map (by assumption)) (by omega) ?_ | refine idx_ms _ (by first | rfl | assumption) (by first | assumption | omega) ?_ | (change vcFun _ _ _ _ _; refine call_eq rfl (by repeat' (first | trivial | refine And.intro ?_ ?_ | (show 0 + _ ≤ List.length _; simp))) ALeL.refl (hm) rfl ?_) | fail)
    all_goals try (exfalso; omega)
    all_goals exact fin (by first | omega | exact Nat.le_trans (norm_len (by assumption)) (by omega)) (by assumption) (back [0, 1, 2] rfl rfl ⟨rfl, rfl, rfl, trivial⟩ (by repeat' (first | exact trivial | exact rfl | exact ren_get rfl | refine kept_ob rfl ?_ | exact ⟨_, rfl, ALe.refl⟩ | (refine slot_eq rfl (congrArg (vint .i64) ?_); omega) | refine And.intro ?_ ?_)))
  · repeat' (first | refine o1 ?_ | refine o2 ?_ | refine k1 ?_ | refine k2 ?_ | refine k3 ?_ | refine k4 ?_ | refine k6 ?_ | refine k7 ?_ | refine k8 ?_ | refine And.intro ?_ ?_ | exact trivial | refine o3 ?_ | refine o4 ?_ | refine o5 ?_ | refine o6 ?_ | refine k5 ?_ | (intro h; first | exact Bool.noConfusion h | exact nz _ h | exact nl h | (simp at h; done) | (simp at h; first | (exfalso; omega) | skip) | skip) | (change retOk _ _ _ _; refine ret_pure rfl trivial ?_) | exact (rfl : allOne _ = true) | (refine (?_ : (0 : Int) ≤ _); omega) | (refine (?_ : _ ≠ _); omega) | (refine (?_ : srcLen _ = rowsLen _); rfl) | exact Nat.le_of_ble_eq_true rfl | exact (by kernel_rfl : drawOk _ _ = true) | refine eqv_len_map ?_ | refine eqv_size ?_ | refine eqv_put (eqv_ck ?_) | refine eqv_zero ?_ | refine eqv_wrap (by omega) (by omega) ?_ | refine eqv_u64 (by omega) (by omega) ?_ | refine eqv_u8 (by omega) (by omega) ?_ | refine eqv_to _ (set_map rfl rfl) ?_ | refine ⟨_, _, (by first | rfl | assumption), at_map (by assumption), ?_⟩ | refine ⟨_, _, (by first | rfl | assumption), (by assumption), ?_⟩ | refine ⟨_, at_map (by assumption), (by decide), ?_⟩ | refine ⟨_, at_map (by assumption), ?_⟩ | (refine (?_ : _ ≤ 140737488355328); simp [rowsLen] <;> omega) | (refine (?_ : _ ≤ 9223372036854775807); simp [rowsLen] <;> omega) | (refine (?_ : _ = rowsLen _); simp [rowsLen] <;> omega) | refine eqv_to _ (app_row rfl) (eqv_to _ app_len ?_) | refine eqv_to _ (app_first rfl) (eqv_to 1 rfl ?_) | refine idx_sl (at_map (by assumption)) (by omega) ?_ | refine idx_ms _ (by first | rfl | assumption) (by first | assumption | omega) ?_ | fail)
    all_goals try (exfalso; omega)
    exact ret_obj [0] [dice t kd] rfl rfl ⟨rfl, trivial⟩ (r' := .tup [vint .i64 w, .agg [.pv (encSess a), .pv (encSess b), .pv (encSess c)]]) rfl ⟨w, a, b, c, kd, d3, d4, d5, d2, rfl, rfl⟩
  · exfalso; omega
theorem call_lists {t : List Int} {H : Heap} {K : AV → Heap → Prop} (i : Nat) (hi : H[i]? = some (dice t 0)) (ht : t.length ≤ 400)
    (hK : ∀ (w : Int) (a b c : List Sess) k2, a.length ≤ 1000 → b.length ≤ 1000 → c.length ≤ 1000 → k2 ≤ t.length → K (.tup [vint .i64 w, .agg [.pv (encSess a), .pv (encSess b), .pv (encSess c)]]) (H.set i (dice t k2))) : vcFun Tryz.prog 8 [.ptr i 2 0 0] H K := by
  refine call_one (i := i) hi (fun _ _ => rfl) [.ptr 0 2 0 0] rfl (c_lists t ht) ?_
  rintro r H' ⟨w, a, b, c, k', h1, h2, h3, h4, rfl, rfl⟩
  exact ⟨_, rfl, fun _ _ => rfl, fun _ _ => rfl, hK w a b c k' h1 h2 h3 h4⟩
end Go.Proofs.YtbcacaodfpgflaaGreatDoor.Cw

/-
  Laws: ChangesAlgebra.
-/
namespace Go.Proofs.YtbcacaodfpgflaaGreatDoor.Cw
open Go Go.Cw Go.Proofs
set_option linter.unusedVariables false
set_option maxRecDepth 100000
set_option maxHeartbeats 8000000

/-- Changes with short lists. -/
def okC (c : List Chg) : Prop := c.length ≤ 400 ∧ ChgsL c
def okA (c : List Chg) : Prop := c.length ≤ 400 ∧ ∀ x ∈ c, x.bef.length ≤ 2000000 ∧ x.aft.length ≤ 2000000
theorem okA.c {c : List Chg} (h : okA c) : okC c := ⟨h.1, fun x hx => ⟨by have := (h.2 x hx).1; omega, by have := (h.2 x hx).2; omega⟩⟩
theorem chgV_ok {a b : List Sess} (ha : a.length ≤ 96) (hb : b.length ≤ 96) : okA (chgV a b) := by
  refine ⟨?_, fun x hx => ?_⟩
  · have h1 := chgD_len (a := a) (b := b) (K := clsU a b)
    have h2 := clsU_len (a := a) (b := b)
    unfold chgV; omega
  · obtain ⟨-, h1, h2, -⟩ := chg_mem hx
    have h3 := ofC_leng (l := a) (c := x.cls)
    have h4 := ofC_leng (l := b) (c := x.cls)
    rw [h1, h2]; omega
theorem okA_nil : okA [] := ⟨Nat.zero_le _, fun x hx => by cases hx⟩
theorem diff_zero {a b : List Sess} {w : Int} (h : diffE a b w = 0) : validE a w = 0 ∧ validE b w = 0 := by
  by_cases h0 : validE a w = 0
  · by_cases h1 : validE b w = 0
    · exact ⟨h0, h1⟩
    · rw [(df2 h0 h1).1] at h; exact absurd h h1
  · rw [(df1 (b := b) h0).1] at h; exact absurd h h0
theorem diff_ok {a b : List Sess} {w : Int} : okA (diffV a b w) := by
  by_cases h : diffE a b w = 0
  · obtain ⟨h0, h1⟩ := diff_zero h
    rw [(df3 h0 h1).2]
    exact chgV_ok (valid_parts h0).2.1 (valid_parts h1).2.1
  · unfold diffV; rw [if_neg h]; exact okA_nil
theorem call_diff {a b : List Sess} {w : Int} {H : Heap} {K : AV → Heap → Prop} (ha : a.length ≤ 100000000) (hb : b.length ≤ 100000000) (hK : K (.tup [.pv (encChgs (diffV a b w)), vint .i64 (diffE a b w)]) H) : vcFun Tryz.prog 10 [.pv (encSess a), .pv (encSess b), vint .i64 w] H K := by
  refine call_frz (as0 := [.pv (encSess a), .pv (encSess b), vint .i64 w]) rfl (by repeat' (first | trivial | refine And.intro ?_ ?_ | (show 0 + _ ≤ List.length _; simp))) ALeL.refl (c_diff a b w ha hb) ?_
  rintro r rfl
  exact hK
theorem c_sameT (a : List Sess) (ha : a.length ≤ 2199023255552) : PCall Tryz.prog 15 [.pv (encSess a), .pv (encSess a)] (fun r => r = vbool true) := by
  have := c_same a a ha ha
  rwa [pB_t rfl] at this
theorem c_samechgT (c : List Chg) (hc : okC c) : PCall Tryz.prog 12 [.pv (encChgs c), .pv (encChgs c)] (fun r => r = vbool true) := by
  have := c_samechg c c hc.2 hc.2 (by have := hc.1; omega) (by have := hc.1; omega)
  rwa [pB_t rfl] at this
theorem c_algebra (t : List Int) : PCall Tryz.prog 5 [.pv (encInts t)] (fun r => r = vbool true) := by
  have hL := c_light t
  refine acall_of tok mixed 136 rfl (fn := Tryz.f5) (c := Tryz.f5.body.getD .skip) (by kernel_rfl) (by kernel_rfl) (by kernel_rfl) rfl 0 rfl ?_
  repeat' (first | ((change vcFun _ _ _ _ _; refine call_new [.pv (encInts t)] rfl (c_roll t) (fun _ _ => rfl) ?_)) | ((change vcFun _ _ _ _ _; refine call_lists 1 rfl (by assumption) ?_; intro w a b c kq ha hb hc hkq)) | (refine ⟨0, rfl, Nat.le_of_ble_eq_true rfl, ?_⟩) | (refine ⟨1, rfl, Nat.le_of_ble_eq_true rfl, ?_⟩) | (refine ⟨2, rfl, Nat.le_of_ble_eq_true rfl, ?_⟩) | ((change vcFun _ _ _ _ _; refine call_diff (by omega) (by omega) ?_)) | refine o1 ?_ | refine o2 ?_ | refine k1 ?_ | refine k2 ?_ | refine k3 ?_ | refine k4 ?_ | refine k6 ?_ | refine k7 ?_ | refine k8 ?_ | refine And.intro ?_ ?_ | exact trivial | refine o3 ?_ | refine o4 ?_ | refine o5 ?_ | refine o6 ?_ | refine k5 ?_ | (intro h; first | exact Bool.noConfusion h | exact nz _ h | exact nl h | (simp at h; done) | (simp at h; first | (exfalso; omega) | skip) | skip) | (change retOk _ _ _ _; refine ret_pure rfl trivial ?_) | exact (rfl : allOne _ = true) | (refine (?_ : (0 : Int) ≤ _); omega) | (refine (?_ : _ ≠ _); omega) | (refine (?_ : srcLen _ = rowsLen _); rfl) | exact Nat.le_of_ble_eq_true rfl | exact (by kernel_rfl : drawOk _ _ = true) | refine eqv_len_map ?_ | refine eqv_size ?_ | refine eqv_put (eqv_ck ?_) | refine eqv_zero ?_ | refine eqv_wrap (by omega) (by omega) ?_ | refine eqv_u64 (by omega) (by omega) ?_ | refine eqv_u8 (by omega) (by omega) ?_ | refine eqv_to _ (set_map rfl rfl) ?_ | refine ⟨_, _, (by first | rfl | assumption), at_map (by assumption), ?_⟩ | refine ⟨_, _, (by first | rfl | assumption), (by assumption), ?_⟩ | refine ⟨_, at_map (by assumption), (by decide), ?_⟩ | refine ⟨_, at_map (by assumption), ?_⟩ | (refine (?_ : _ ≤ 140737488355328); simp [rowsLen] <;> omega) | (refine (?_ : _ ≤ 9223372036854775807); simp [rowsLen] <;> omega) | (refine (?_ : _ = rowsLen _); simp [rowsLen] <;> omega) | refine eqv_to _ (app_row rfl) (eqv_to _ app_len ?_) | refine eqv_to _ (app_first rfl) (eqv_to 1 rfl ?_) | refine idx_sl (at_map (by assumption)) (by omega) ?_ | refine idx_ms _ (by first | rfl | assumption) (by first | assumption | omega) ?_ | (change vcFun _ _ _ _ _; refine call_eq rfl (by repeat' (first | trivial | refine And.intro ?_ ?_ | (show 0 + _ ≤ List.length _; simp))) ALeL.refl (hL) rfl ?_) | (change vcFun _ _ _ _ _; refine call_eq rfl (by repeat' (first | trivial | refine And.intro ?_ ?_ | (show 0 + _ ≤ List.length _; simp))) ALeL.refl (awake_ok) rfl ?_) | fail)
  all_goals first
    | exact rfl
    | skip
  have d1 : diffE a b w = 0 := by assumption
  have d2 : diffE b c w = 0 := by assumption
  obtain ⟨va, vb⟩ := diff_zero d1
  have vc := (diff_zero d2).2
  have la := (valid_parts va).2.1
  have lb := (valid_parts vb).2.1
  have lc := (valid_parts vc).2.1
  rw [(df3 va vb).2, (df3 vb vc).2]
  have hab := chgV_ok la lb
  have hba := chgV_ok lb la
  have hbc := chgV_ok lb lc
  have hac := chgV_ok la lc
  have hA1 := c_apply a (chgV a b) w (by omega) hab.1 hab.2
  have hA2 := c_apply b (chgV b a) w (by omega) hba.1 hba.2
  obtain ⟨q1, q2⟩ := chg_apply va vb
  obtain ⟨q3, q4⟩ := chg_apply vb va
  have q5 : applV a (chgV a b) w = b := by unfold applV; rw [if_pos q1, q2]
  have q6 : applV b (chgV b a) w = a := by unfold applV; rw [if_pos q3, q4]
  rw [q5, q1] at hA1
  rw [q6, q3] at hA2
  have hI := c_inv (chgV a b) (by have := hab.1; omega) hab.c.2
  rw [chg_inv] at hI
  have hJ1 := c_join (chgV a b) (chgV b c) hab.1 hbc.1 hab.c.2 hbc.c.2
  have hJ2 := c_join (chgV a b) (chgV b a) hab.1 hba.1 hab.c.2 hba.c.2
  obtain ⟨q7, q8⟩ := chg_join (a := a) (b := b) (c := c)
  obtain ⟨q9, q10⟩ := chg_join (a := a) (b := b) (c := a)
  have q11 : joinV (chgV a b) (chgV b c) = chgV a c := by unfold joinV; rw [if_pos q7, q8]
  have q12 : joinV (chgV a b) (chgV b a) = [] := by unfold joinV; rw [if_pos q9, q10, chg_none]
  rw [q11, q7] at hJ1
  rw [q12, q9] at hJ2
  have hD := c_diff a c w (by omega) (by omega)
  rw [(df3 va vc).1, (df3 va vc).2] at hD
  have hS0 := c_sameT a (by omega)
  have hS1 := c_sameT b (by omega)
  have hSC := c_samechgT (chgV a c) hac.c
  clear q1 q2 q3 q4 q5 q6 q7 q8 q9 q10 q11 q12
  generalize chgV a b = X at *
  generalize chgV b a = Y at *
  generalize chgV b c = Z at *
  generalize chgV a c = U at *
  repeat' (first | (refine ⟨0, rfl, Nat.le_of_ble_eq_true rfl, ?_⟩) | (refine ⟨1, rfl, Nat.le_of_ble_eq_true rfl, ?_⟩) | (refine ⟨2, rfl, Nat.le_of_ble_eq_true rfl, ?_⟩) | ((change vcFun _ _ _ _ _; refine call_frz rfl (by repeat' (first | trivial | refine And.intro ?_ ?_ | (show 0 + _ ≤ List.length _; simp))) ALeL.refl hA1 ?_; rintro _ rfl)) | ((change vcFun _ _ _ _ _; refine call_frz rfl (by repeat' (first | trivial | refine And.intro ?_ ?_ | (show 0 + _ ≤ List.length _; simp))) ALeL.refl hI ?_; rintro _ rfl)) | ((change vcFun _ _ _ _ _; refine call_frz rfl (by repeat' (first | trivial | refine And.intro ?_ ?_ | (show 0 + _ ≤ List.length _; simp))) ALeL.refl hJ1 ?_; rintro _ rfl)) | ((change vcFun _ _ _ _ _; refine call_frz rfl (by repeat' (first | trivial | refine And.intro ?_ ?_ | (show 0 + _ ≤ List.length _; simp))) ALeL.refl hJ2 ?_; rintro _ rfl)) | ((change vcFun _ _ _ _ _; refine call_frz rfl (by repeat' (first | trivial | refine And.intro ?_ ?_ | (show 0 + _ ≤ List.length _; simp))) ALeL.refl hD ?_; rintro _ rfl)) | refine o1 ?_ | refine o2 ?_ | refine k1 ?_ | refine k2 ?_ | refine k3 ?_ | refine k4 ?_ | refine k6 ?_ | refine k7 ?_ | refine k8 ?_ | refine And.intro ?_ ?_ | exact trivial | refine o3 ?_ | refine o4 ?_ | refine o5 ?_ | refine o6 ?_ | refine k5 ?_ | (intro h; first | exact Bool.noConfusion h | exact nz _ h | exact nl h | (simp at h; done) | (simp at h; first | (exfalso; omega) | skip) | skip) | (change retOk _ _ _ _; refine ret_pure rfl trivial ?_) | exact (rfl : allOne _ = true) | (refine (?_ : (0 : Int) ≤ _); omega) | (refine (?_ : _ ≠ _); omega) | (refine (?_ : srcLen _ = rowsLen _); rfl) | exact Nat.le_of_ble_eq_true rfl | exact (by kernel_rfl : drawOk _ _ = true) | refine eqv_len_map ?_ | refine eqv_size ?_ | refine eqv_put (eqv_ck ?_) | refine eqv_zero ?_ | refine eqv_wrap (by omega) (by omega) ?_ | refine eqv_u64 (by omega) (by omega) ?_ | refine eqv_u8 (by omega) (by omega) ?_ | refine eqv_to _ (set_map rfl rfl) ?_ | refine ⟨_, _, (by first | rfl | assumption), at_map (by assumption), ?_⟩ | refine ⟨_, _, (by first | rfl | assumption), (by assumption), ?_⟩ | refine ⟨_, at_map (by assumption), (by decide), ?_⟩ | refine ⟨_, at_map (by assumption), ?_⟩ | (refine (?_ : _ ≤ 140737488355328); simp [rowsLen] <;> omega) | (refine (?_ : _ ≤ 9223372036854775807); simp [rowsLen] <;> omega) | (refine (?_ : _ = rowsLen _); simp [rowsLen] <;> omega) | refine eqv_to _ (app_row rfl) (eqv_to _ app_len ?_) | refine eqv_to _ (app_first rfl) (eqv_to 1 rfl ?_) | refine idx_sl (at_map (by assumption)) (by omega) ?_ | refine idx_ms _ (by first | rfl | assumption) (by first | assumption | omega) ?_ | (change vcFun _ _ _ _ _; refine call_eq rfl (by repeat' (first | trivial | refine And.intro ?_ ?_ | (show 0 + _ ≤ List.length _; simp))) ALeL.refl (hS0) rfl ?_) | (change vcFun _ _ _ _ _; refine call_eq rfl (by repeat' (first | trivial | refine And.intro ?_ ?_ | (show 0 + _ ≤ List.length _; simp))) ALeL.refl (hS1) rfl ?_) | (change vcFun _ _ _ _ _; refine call_eq rfl (by repeat' (first | trivial | refine And.intro ?_ ?_ | (show 0 + _ ≤ List.length _; simp))) ALeL.refl (hSC) rfl ?_) | (change vcFun _ _ _ _ _; refine call_eq rfl (by repeat' (first | trivial | refine And.intro ?_ ?_ | (show 0 + _ ≤ List.length _; simp))) ALeL.refl (awake_ok) rfl ?_) | (change vcFunD _ _ _ _ _; refine callD_eq rfl (by repeat' (first | trivial | refine And.intro ?_ ?_ | (show 0 + _ ≤ List.length _; simp))) ALeL.refl (hI) rfl ?_) | (change vcFunD _ _ _ _ _; refine callD_eq rfl (by repeat' (first | trivial | refine And.intro ?_ ?_ | (show 0 + _ ≤ List.length _; simp))) ALeL.refl (hA2) rfl ?_) | fail)
  exact rfl
end Go.Proofs.YtbcacaodfpgflaaGreatDoor.Cw

/-
  Laws: ChangesJoins.
-/
namespace Go.Proofs.YtbcacaodfpgflaaGreatDoor.Cw
open Go Go.Cw Go.Proofs
set_option linter.unusedVariables false
set_option maxRecDepth 100000
set_option maxHeartbeats 8000000

theorem call_rdiff {a b : List Sess} {w : Int} {H : Heap} {K : AV → Heap → Prop} (ha : a.length ≤ 100000000) (hb : b.length ≤ 100000000) (hK : K (.tup [.pv (encChgs (diffV a b w)), vint .i64 (diffE a b w)]) H) : vcFun Tryz.prog 11 [.pv (encSess a), .pv (encSess b), vint .i64 w] H K := by
  refine call_frz (as0 := [.pv (encSess a), .pv (encSess b), vint .i64 w]) rfl (by repeat' (first | trivial | refine And.intro ?_ ?_ | (show 0 + _ ≤ List.length _; simp))) ALeL.refl (c_rdiff a b w ha hb) ?_
  rintro r rfl
  exact hK
theorem call_join {c d : List Chg} {H : Heap} {K : AV → Heap → Prop} (hc : okC c) (hd : okC d) (hK : K (.tup [.pv (encChgs (joinV c d)), vint .i64 (joinE c d)]) H) : vcFun Tryz.prog 16 [.pv (encChgs c), .pv (encChgs d)] H K := by
  refine call_frz (as0 := [.pv (encChgs c), .pv (encChgs d)]) rfl (by repeat' (first | trivial | refine And.intro ?_ ?_ | (show 0 + _ ≤ List.length _; simp))) ALeL.refl (c_join c d hc.1 hd.1 hc.2 hd.2) ?_
  rintro r rfl
  exact hK
theorem call_rjoin {c d : List Chg} {H : Heap} {K : AV → Heap → Prop} (hc : okC c) (hd : okC d) (hK : K (.tup [.pv (encChgs (joinV c d)), vint .i64 (joinE c d)]) H) : vcFun Tryz.prog 17 [.pv (encChgs c), .pv (encChgs d)] H K := by
  refine call_frz (as0 := [.pv (encChgs c), .pv (encChgs d)]) rfl (by repeat' (first | trivial | refine And.intro ?_ ?_ | (show 0 + _ ≤ List.length _; simp))) ALeL.refl (c_rjoin c d hc.1 hd.1 hc.2 hd.2) ?_
  rintro r rfl
  exact hK
/-- Changes, more of them. -/
def okB (c : List Chg) : Prop := c.length ≤ 1000000 ∧ ChgsL c
theorem okC.b {c : List Chg} (h : okC c) : okB c := ⟨by have := h.1; omega, h.2⟩
theorem inv_ok {c : List Chg} (h : okC c) : okB (invC c) := by
  refine ⟨by unfold invC; rw [List.length_map]; have := h.1; omega, fun x hx => ?_⟩
  unfold invC at hx
  obtain ⟨y, hy, rfl⟩ := List.mem_map.1 hx
  exact ⟨(h.2 y hy).2, (h.2 y hy).1⟩
theorem join_ok {c d : List Chg} (hc : okC c) (hd : okC d) : okB (joinV c d) := by
  unfold joinV
  split
  · refine ⟨?_, fun x hx => ?_⟩
    · have h1 := joinK_len (c := c) (d := d) (K := clsOf (c.map Chg.cls ++ d.map Chg.cls))
      have h2 := clsOf_len (L := c.map Chg.cls ++ d.map Chg.cls)
      rw [List.length_append, List.length_map, List.length_map] at h2
      have h3 := hc.1
      have h4 := hd.1
      show (joinK c d _).length ≤ _
      omega
    · unfold joinL at hx
      obtain ⟨k, -, hk⟩ := List.mem_filterMap.1 hx
      unfold joinG at hk
      split at hk
      · cases hk
      · injection hk with hk
        subst hk
        unfold joinX
        cases h1 : findC c k with
        | none => cases h2 : findC d k with
          | none => exact ⟨Nat.zero_le _, Nat.zero_le _⟩
          | some y => exact ⟨(hd.2 y (find_mem h2).1).1, (hd.2 y (find_mem h2).1).2⟩
        | some x => cases h2 : findC d k with
          | none => exact ⟨(hc.2 x (find_mem h1).1).1, (hc.2 x (find_mem h1).1).2⟩
          | some y => exact ⟨(hc.2 x (find_mem h1).1).1, (hd.2 y (find_mem h2).1).2⟩
  · exact ⟨Nat.zero_le _, fun x hx => by cases hx⟩
theorem c_samechgB (c : List Chg) (hc : okB c) : PCall Tryz.prog 12 [.pv (encChgs c), .pv (encChgs c)] (fun r => r = vbool true) := by
  have := c_samechg c c hc.2 hc.2 (by have := hc.1; omega) (by have := hc.1; omega)
  rwa [pB_t rfl] at this
theorem chg_load {L : List (List PV)} {k : Nat} {C : List PV → Prop} (a b c d : List Chg) (ha : okC a) (hb : okC b) (hc : okC c) (hd : okC d) (hL : L = [[encChgs a, encChgs b], [encChgs c, encChgs d], [encChgs c, encChgs a], [encChgs d, encChgs c]]) (hk : k < 4) (h : ∀ p q : List Chg, okC p → okC q → C [encChgs p, encChgs q]) : ∃ r, L[k]? = some r ∧ C r := by
  subst hL
  match k, hk with
  | 0, _ => exact ⟨_, rfl, h _ _ ha hb⟩
  | 1, _ => exact ⟨_, rfl, h _ _ hc hd⟩
  | 2, _ => exact ⟨_, rfl, h _ _ hc ha⟩
  | 3, _ => exact ⟨_, rfl, h _ _ hd hc⟩
theorem c_joins (r1 r2 : List Chg) (t : List Int) (h1 : ChgsL r1) (h2 : ChgsL r2) (n1 : r1.length ≤ 9223372036854775807) (n2 : r2.length ≤ 9223372036854775807) : PCall Tryz.prog 4 [.pv (encChgs r1), .pv (encChgs r2), .pv (encInts t)] (fun r => r = vbool true) := by
  have hL := c_light t
  refine acall_of tok mixed 112 rfl (fn := Tryz.f4) (c := Tryz.f4.body.getD .skip) (by kernel_rfl) (by kernel_rfl) (by kernel_rfl) rfl 0 rfl ?_
  repeat' (first | ((change vcFun _ _ _ _ _; refine call_new [.pv (encInts t)] rfl (c_roll t) (fun _ _ => rfl) ?_)) | ((change vcFun _ _ _ _ _; refine call_lists 1 rfl (by assumption) ?_; intro w a b c kq ha hb hc hkq)) | (refine ⟨0, rfl, Nat.le_of_ble_eq_true rfl, ?_⟩) | (refine ⟨1, rfl, Nat.le_of_ble_eq_true rfl, ?_⟩) | (refine ⟨2, rfl, Nat.le_of_ble_eq_true rfl, ?_⟩) | ((change vcFun _ _ _ _ _; refine call_rdiff (by omega) (by omega) ?_)) | refine o1 ?_ | refine o2 ?_ | refine k1 ?_ | refine k2 ?_ | refine k3 ?_ | refine k4 ?_ | refine k6 ?_ | refine k7 ?_ | refine k8 ?_ | refine And.intro ?_ ?_ | exact trivial | refine o3 ?_ | refine o4 ?_ | refine o5 ?_ | refine o6 ?_ | refine k5 ?_ | (intro h; first | exact Bool.noConfusion h | exact nz _ h | exact nl h | (simp at h; done) | (simp at h; first | (exfalso; omega) | skip) | skip) | (change retOk _ _ _ _; refine ret_pure rfl trivial ?_) | exact (rfl : allOne _ = true) | (refine (?_ : (0 : Int) ≤ _); omega) | (refine (?_ : _ ≠ _); omega) | (refine (?_ : srcLen _ = rowsLen _); rfl) | exact Nat.le_of_ble_eq_true rfl | exact (by kernel_rfl : drawOk _ _ = true) | refine eqv_len_map ?_ | refine eqv_size ?_ | refine eqv_put (eqv_ck ?_) | refine eqv_zero ?_ | refine eqv_wrap (by omega) (by omega) ?_ | refine eqv_u64 (by omega) (by omega) ?_ | refine eqv_u8 (by omega) (by omega) ?_ | refine eqv_to _ (set_map rfl rfl) ?_ | refine ⟨_, _, (by first | rfl | assumption), at_map (by assumption), ?_⟩ | refine ⟨_, _, (by first | rfl | assumption), (by assumption), ?_⟩ | refine ⟨_, at_map (by assumption), (by decide), ?_⟩ | refine ⟨_, at_map (by assumption), ?_⟩ | (refine (?_ : _ ≤ 140737488355328); simp [rowsLen] <;> omega) | (refine (?_ : _ ≤ 9223372036854775807); simp [rowsLen] <;> omega) | (refine (?_ : _ = rowsLen _); simp [rowsLen] <;> omega) | refine eqv_to _ (app_row rfl) (eqv_to _ app_len ?_) | refine eqv_to _ (app_first rfl) (eqv_to 1 rfl ?_) | refine idx_sl (at_map (by assumption)) (by omega) ?_ | refine idx_ms _ (by first | rfl | assumption) (by first | assumption | omega) ?_ | (change vcFun _ _ _ _ _; refine call_eq rfl (by repeat' (first | trivial | refine And.intro ?_ ?_ | (show 0 + _ ≤ List.length _; simp))) ALeL.refl (hL) rfl ?_) | (change vcFun _ _ _ _ _; refine call_eq rfl (by repeat' (first | trivial | refine And.intro ?_ ?_ | (show 0 + _ ≤ List.length _; simp))) ALeL.refl (awake_ok) rfl ?_) | fail)
  all_goals first
    | exact rfl
    | skip
  have kr1 : okC r1 := ⟨by omega, h1⟩
  have kr2 : okC r2 := ⟨by omega, h2⟩
  have g1 := (diff_ok (a := a) (b := b) (w := w)).c
  have g2 := (diff_ok (a := b) (b := c) (w := w)).c
  generalize diffV a b w = X at *
  generalize diffV b c w = Y at *
  refine loop_at (fun i : Nat => [(71, vint .i64 i)]) (fun _ => []) (fun i => i ≤ 4) (fun i => 4 - i) 0 (by omega) (by repeat' (first | exact trivial | exact rfl | exact ⟨_, rfl, ALe.refl⟩ | refine And.intro ?_ ?_)) (by repeat' (first | exact trivial | exact rfl | exact ⟨_, rfl, ALe.refl⟩ | refine And.intro ?_ ?_)) ?_
  intro i hi
  rcases Nat.lt_or_ge i 4 with hlt | hge
  · repeat' (first | (refine chg_load r1 r2 X Y kr1 kr2 g1 g2 rfl hlt (fun p q hp hq => ?_)) | (refine ⟨0, rfl, Nat.le_of_ble_eq_true rfl, ?_⟩) | (refine ⟨1, rfl, Nat.le_of_ble_eq_true rfl, ?_⟩) | ((change vcFun _ _ _ _ _; refine call_join hp hq ?_)) | ((change vcFun _ _ _ _ _; refine call_rjoin hp hq ?_)) | refine o1 ?_ | refine o2 ?_ | refine k1 ?_ | refine k2 ?_ | refine k3 ?_ | refine k4 ?_ | refine k6 ?_ | refine k7 ?_ | refine k8 ?_ | refine And.intro ?_ ?_ | exact trivial | refine o3 ?_ | refine o4 ?_ | refine o5 ?_ | refine o6 ?_ | refine k5 ?_ | (intro h; first | exact Bool.noConfusion h | exact nz _ h | exact nl h | (simp at h; done) | (simp at h; first | (exfalso; omega) | skip) | skip) | (change retOk _ _ _ _; refine ret_pure rfl trivial ?_) | exact (rfl : allOne _ = true) | (refine (?_ : (0 : Int) ≤ _); omega) | (refine (?_ : _ ≠ _); omega) | (refine (?_ : srcLen _ = rowsLen _); rfl) | exact Nat.le_of_ble_eq_true rfl | exact (by kernel_rfl : drawOk _ _ = true) | refine eqv_len_map ?_ | refine eqv_size ?_ | refine eqv_put (eqv_ck ?_) | refine eqv_zero ?_ | refine eqv_wrap (by omega) (by omega) ?_ | refine eqv_u64 (by omega) (by omega) ?_ | refine eqv_u8 (by omega) (by omega) ?_ | refine eqv_to _ (set_map rfl rfl) ?_ | refine ⟨_, _, (by first | rfl | assumption), at_map (by assumption), ?_⟩ | refine ⟨_, _, (by first | rfl | assumption), (by assumption), ?_⟩ | refine ⟨_, at_map (by assumption), (by decide), ?_⟩ | refine ⟨_, at_map (by assumption), ?_⟩ | (refine (?_ : _ ≤ 140737488355328); simp [rowsLen] <;> omega) | (refine (?_ : _ ≤ 9223372036854775807); simp [rowsLen] <;> omega) | (refine (?_ : _ = rowsLen _); simp [rowsLen] <;> omega) | refine eqv_to _ (app_row rfl) (eqv_to _ app_len ?_) | refine eqv_to _ (app_first rfl) (eqv_to 1 rfl ?_) | refine idx_sl (at_map (by assumption)) (by omega) ?_ | refine idx_ms _ (by first | rfl | assumption) (by first | assumption | omega) ?_ | (change vcFunD _ _ _ _ _; refine callD_eq rfl (by repeat' (first | trivial | refine And.intro ?_ ?_ | (show 0 + _ ≤ List.length _; simp))) ALeL.refl (c_samechgB (joinV p q) (join_ok hp hq)) rfl ?_) | (change vcFunD _ _ _ _ _; refine callD_eq rfl (by repeat' (first | trivial | refine And.intro ?_ ?_ | (show 0 + _ ≤ List.length _; simp))) ALeL.refl (c_samechgB (invC p) (inv_ok hp)) rfl ?_) | (change vcFunD _ _ _ _ _; refine callD_eq rfl (by repeat' (first | trivial | refine And.intro ?_ ?_ | (show 0 + _ ≤ List.length _; simp))) ALeL.refl (c_inv p hp.b.1 hp.2) rfl ?_) | (change vcFunD _ _ _ _ _; refine callD_eq rfl (by repeat' (first | trivial | refine And.intro ?_ ?_ | (show 0 + _ ≤ List.length _; simp))) ALeL.refl (c_rinv p hp.b.1) rfl ?_) | fail)
    exact ⟨i + 1, by omega, by omega, back [0, 1, 2] rfl rfl ⟨rfl, rfl, rfl, trivial⟩ (by repeat' (first | exact trivial | exact rfl | exact ⟨_, rfl, ALe.refl⟩ | refine And.intro ?_ ?_))⟩
  · repeat' (first | refine o1 ?_ | refine o2 ?_ | refine k1 ?_ | refine k2 ?_ | refine k3 ?_ | refine k4 ?_ | refine k6 ?_ | refine k7 ?_ | refine k8 ?_ | refine And.intro ?_ ?_ | exact trivial | refine o3 ?_ | refine o4 ?_ | refine o5 ?_ | refine o6 ?_ | refine k5 ?_ | (intro h; first | exact Bool.noConfusion h | exact nz _ h | exact nl h | (simp at h; done) | (simp at h; first | (exfalso; omega) | skip) | skip) | (change retOk _ _ _ _; refine ret_pure rfl trivial ?_) | exact (rfl : allOne _ = true) | (refine (?_ : (0 : Int) ≤ _); omega) | (refine (?_ : _ ≠ _); omega) | (refine (?_ : srcLen _ = rowsLen _); rfl) | exact Nat.le_of_ble_eq_true rfl | exact (by kernel_rfl : drawOk _ _ = true) | refine eqv_len_map ?_ | refine eqv_size ?_ | refine eqv_put (eqv_ck ?_) | refine eqv_zero ?_ | refine eqv_wrap (by omega) (by omega) ?_ | refine eqv_u64 (by omega) (by omega) ?_ | refine eqv_u8 (by omega) (by omega) ?_ | refine eqv_to _ (set_map rfl rfl) ?_ | refine ⟨_, _, (by first | rfl | assumption), at_map (by assumption), ?_⟩ | refine ⟨_, _, (by first | rfl | assumption), (by assumption), ?_⟩ | refine ⟨_, at_map (by assumption), (by decide), ?_⟩ | refine ⟨_, at_map (by assumption), ?_⟩ | (refine (?_ : _ ≤ 140737488355328); simp [rowsLen] <;> omega) | (refine (?_ : _ ≤ 9223372036854775807); simp [rowsLen] <;> omega) | (refine (?_ : _ = rowsLen _); simp [rowsLen] <;> omega) | refine eqv_to _ (app_row rfl) (eqv_to _ app_len ?_) | refine eqv_to _ (app_first rfl) (eqv_to 1 rfl ?_) | refine idx_sl (at_map (by assumption)) (by omega) ?_ | refine idx_ms _ (by first | rfl | assumption) (by first | assumption | omega) ?_ | (change vcFun _ _ _ _ _; refine call_eq rfl (by repeat' (first | trivial | refine And.intro ?_ ?_ | (show 0 + _ ≤ List.length _; simp))) ALeL.refl (awake_ok) rfl ?_) | (change vcFunD _ _ _ _ _; refine callD_eq rfl (by repeat' (first | trivial | refine And.intro ?_ ?_ | (show 0 + _ ≤ List.length _; simp))) ALeL.refl (awake_ok) rfl ?_) | fail)
    exact rfl
end Go.Proofs.YtbcacaodfpgflaaGreatDoor.Cw

/-
  Laws: ChangesDiffs.
-/
namespace Go.Proofs.YtbcacaodfpgflaaGreatDoor.Cw
open Go Go.Cw Go.Proofs
set_option linter.unusedVariables false
set_option maxRecDepth 100000
set_option maxHeartbeats 8000000

theorem call_apply {l : List Sess} {c : List Chg} {w : Int} {H : Heap} {K : AV → Heap → Prop} (hl : l.length ≤ 100000000) (hc : okA c) (hK : K (.tup [.pv (encSess (applV l c w)), vint .i64 (applE l c w)]) H) : vcFun Tryz.prog 13 [.pv (encSess l), .pv (encChgs c), vint .i64 w] H K := by
  refine call_frz (as0 := [.pv (encSess l), .pv (encChgs c), vint .i64 w]) rfl (by repeat' (first | trivial | refine And.intro ?_ ?_ | (show 0 + _ ≤ List.length _; simp))) ALeL.refl (c_apply l c w hl hc.1 hc.2) ?_
  rintro r rfl
  exact hK
theorem call_rapply {l : List Sess} {c : List Chg} {w : Int} {H : Heap} {K : AV → Heap → Prop} (hl : l.length ≤ 100000000) (hc : okA c) (hK : K (.tup [.pv (encSess (applV l c w)), vint .i64 (applE l c w)]) H) : vcFun Tryz.prog 14 [.pv (encSess l), .pv (encChgs c), vint .i64 w] H K := by
  refine call_frz (as0 := [.pv (encSess l), .pv (encChgs c), vint .i64 w]) rfl (by repeat' (first | trivial | refine And.intro ?_ ?_ | (show 0 + _ ≤ List.length _; simp))) ALeL.refl (c_rapply l c w hl hc.1 hc.2) ?_
  rintro r rfl
  exact hK
theorem applV_len {l : List Sess} {c : List Chg} {w : Int} : (applV l c w).length ≤ 96 := by
  unfold applV
  split
  · rename_i h
    unfold applE at h
    split at h
    · rename_i h0; exact absurd h h0
    · split at h
      · split at h
        · rename_i h0; exact absurd h h0
        · exact (valid_parts h).2.1
      · cases h
  · exact Nat.zero_le _
theorem int_load {L : List (List PV)} {k : Nat} {C : List PV → Prop} (x y : Int) (hL : L = [[ei x], [ei y]]) (hk : k < 2) (h : ∀ p : Int, C [ei p]) : ∃ r, L[k]? = some r ∧ C r := by
  subst hL
  match k, hk with
  | 0, _ => exact ⟨_, rfl, h _⟩
  | 1, _ => exact ⟨_, rfl, h _⟩
theorem sess_load {L : List (List PV)} {k : Nat} {C : List PV → Prop} (a b c : List Sess) (ha : a.length ≤ 1000) (hb : b.length ≤ 1000) (hc : c.length ≤ 1000) (hL : L = [[encSess a, encSess b], [encSess c, encSess a], [encSess b, encSess c]]) (hk : k < 3) (h : ∀ p q : List Sess, p.length ≤ 1000 → q.length ≤ 1000 → C [encSess p, encSess q]) : ∃ r, L[k]? = some r ∧ C r := by
  subst hL
  match k, hk with
  | 0, _ => exact ⟨_, rfl, h _ _ ha hb⟩
  | 1, _ => exact ⟨_, rfl, h _ _ hc ha⟩
  | 2, _ => exact ⟨_, rfl, h _ _ hb hc⟩
theorem two_load {L : List (List PV)} {k : Nat} {C : List PV → Prop} (a b : List Chg) (ha : okA a) (hb : okA b) (hL : L = [[encChgs a], [encChgs b]]) (hk : k < 2) (h : ∀ p : List Chg, okA p → C [encChgs p]) : ∃ r, L[k]? = some r ∧ C r := by
  subst hL
  match k, hk with
  | 0, _ => exact ⟨_, rfl, h _ ha⟩
  | 1, _ => exact ⟨_, rfl, h _ hb⟩
theorem c_diffs (raw : List Sess) (odd : List Chg) (t : List Int) (ws : Int) (hr : raw.length ≤ 9223372036854775807) (n1 : odd.length ≤ 9223372036854775807) (ho : ∀ x ∈ odd, x.bef.length ≤ 2000000 ∧ x.aft.length ≤ 2000000) : PCall Tryz.prog 3 [.pv (encSess raw), .pv (encChgs odd), .pv (encInts t), vint .i64 ws] (fun r => r = vbool true) := by
  have hL := c_light t
  refine acall_of tok mixed 136 rfl (fn := Tryz.f3) (c := Tryz.f3.body.getD .skip) (by kernel_rfl) (by kernel_rfl) (by kernel_rfl) rfl 0 rfl ?_
  repeat' (first | ((change vcFun _ _ _ _ _; refine call_new [.pv (encInts t)] rfl (c_roll t) (fun _ _ => rfl) ?_)) | ((change vcFun _ _ _ _ _; refine call_lists 1 rfl (by assumption) ?_; intro w a b c kq ha hb hc hkq)) | refine o1 ?_ | refine o2 ?_ | refine k1 ?_ | refine k2 ?_ | refine k3 ?_ | refine k4 ?_ | refine k6 ?_ | refine k7 ?_ | refine k8 ?_ | refine And.intro ?_ ?_ | exact trivial | refine o3 ?_ | refine o4 ?_ | refine o5 ?_ | refine o6 ?_ | refine k5 ?_ | (intro h; first | exact Bool.noConfusion h | exact nz _ h | exact nl h | (simp at h; done) | (simp at h; first | (exfalso; omega) | skip) | skip) | (change retOk _ _ _ _; refine ret_pure rfl trivial ?_) | exact (rfl : allOne _ = true) | (refine (?_ : (0 : Int) ≤ _); omega) | (refine (?_ : _ ≠ _); omega) | (refine (?_ : srcLen _ = rowsLen _); rfl) | exact Nat.le_of_ble_eq_true rfl | exact (by kernel_rfl : drawOk _ _ = true) | refine eqv_len_map ?_ | refine eqv_size ?_ | refine eqv_put (eqv_ck ?_) | refine eqv_zero ?_ | refine eqv_wrap (by omega) (by omega) ?_ | refine eqv_u64 (by omega) (by omega) ?_ | refine eqv_u8 (by omega) (by omega) ?_ | refine eqv_to _ (set_map rfl rfl) ?_ | refine ⟨_, _, (by first | rfl | assumption), at_map (by assumption), ?_⟩ | refine ⟨_, _, (by first | rfl | assumption), (by assumption), ?_⟩ | refine ⟨_, at_map (by assumption), (by decide), ?_⟩ | refine ⟨_, at_map (by assumption), ?_⟩ | (refine (?_ : _ ≤ 140737488355328); simp [rowsLen] <;> omega) | (refine (?_ : _ ≤ 9223372036854775807); simp [rowsLen] <;> omega) | (refine (?_ : _ = rowsLen _); simp [rowsLen] <;> omega) | refine eqv_to _ (app_row rfl) (eqv_to _ app_len ?_) | refine eqv_to _ (app_first rfl) (eqv_to 1 rfl ?_) | refine idx_sl (at_map (by assumption)) (by omega) ?_ | refine idx_ms _ (by first | rfl | assumption) (by first | assumption | omega) ?_ | (change vcFun _ _ _ _ _; refine call_eq rfl (by repeat' (first | trivial | refine And.intro ?_ ?_ | (show 0 + _ ≤ List.length _; simp))) ALeL.refl (hL) rfl ?_) | (change vcFun _ _ _ _ _; refine call_eq rfl (by repeat' (first | trivial | refine And.intro ?_ ?_ | (show 0 + _ ≤ List.length _; simp))) ALeL.refl (awake_ok) rfl ?_) | fail)
  all_goals first
    | exact rfl
    | skip
  have ko : okA odd := ⟨by omega, ho⟩
  have kr : raw.length ≤ 1000 := by omega
  refine loop_at (fun i : Nat => [(49, vint .i64 i)]) (fun _ => []) (fun i => i ≤ 2) (fun i => 2 - i) 0 (by omega) (by repeat' (first | exact trivial | exact rfl | exact ⟨_, rfl, ALe.refl⟩ | refine And.intro ?_ ?_)) (by repeat' (first | exact trivial | exact rfl | exact ⟨_, rfl, ALe.refl⟩ | refine And.intro ?_ ?_)) ?_
  intro i hi
  rcases Nat.lt_or_ge i 2 with hlt | hge
  · repeat' (first | (refine int_load ws w rfl hlt (fun k => ?_)) | (refine ⟨0, rfl, Nat.le_of_ble_eq_true rfl, ?_⟩) | (refine ⟨1, rfl, Nat.le_of_ble_eq_true rfl, ?_⟩) | refine o1 ?_ | refine o2 ?_ | refine k1 ?_ | refine k2 ?_ | refine k3 ?_ | refine k4 ?_ | refine k6 ?_ | refine k7 ?_ | refine k8 ?_ | refine And.intro ?_ ?_ | exact trivial | refine o3 ?_ | refine o4 ?_ | refine o5 ?_ | refine o6 ?_ | refine k5 ?_ | (intro h; first | exact Bool.noConfusion h | exact nz _ h | exact nl h | (simp at h; done) | (simp at h; first | (exfalso; omega) | skip) | skip) | (change retOk _ _ _ _; refine ret_pure rfl trivial ?_) | exact (rfl : allOne _ = true) | (refine (?_ : (0 : Int) ≤ _); omega) | (refine (?_ : _ ≠ _); omega) | (refine (?_ : srcLen _ = rowsLen _); rfl) | exact Nat.le_of_ble_eq_true rfl | exact (by kernel_rfl : drawOk _ _ = true) | refine eqv_len_map ?_ | refine eqv_size ?_ | refine eqv_put (eqv_ck ?_) | refine eqv_zero ?_ | refine eqv_wrap (by omega) (by omega) ?_ | refine eqv_u64 (by omega) (by omega) ?_ | refine eqv_u8 (by omega) (by omega) ?_ | refine eqv_to _ (set_map rfl rfl) ?_ | refine ⟨_, _, (by first | rfl | assumption), at_map (by assumption), ?_⟩ | refine ⟨_, _, (by first | rfl | assumption), (by assumption), ?_⟩ | refine ⟨_, at_map (by assumption), (by decide), ?_⟩ | refine ⟨_, at_map (by assumption), ?_⟩ | (refine (?_ : _ ≤ 140737488355328); simp [rowsLen] <;> omega) | (refine (?_ : _ ≤ 9223372036854775807); simp [rowsLen] <;> omega) | (refine (?_ : _ = rowsLen _); simp [rowsLen] <;> omega) | refine eqv_to _ (app_row rfl) (eqv_to _ app_len ?_) | refine eqv_to _ (app_first rfl) (eqv_to 1 rfl ?_) | refine idx_sl (at_map (by assumption)) (by omega) ?_ | refine idx_ms _ (by first | rfl | assumption) (by first | assumption | omega) ?_ | fail)
    refine loop_at (fun j : Nat => [(68, vint .i64 j)]) (fun _ => []) (fun j => j ≤ 3) (fun j => 3 - j) 0 (by omega) (by repeat' (first | exact trivial | exact rfl | exact ⟨_, rfl, ALe.refl⟩ | refine And.intro ?_ ?_)) (by repeat' (first | exact trivial | exact rfl | exact ⟨_, rfl, ALe.refl⟩ | refine And.intro ?_ ?_)) ?_
    intro j hj
    rcases Nat.lt_or_ge j 3 with hjt | hjg
    · repeat' (first | (refine sess_load a b raw ha hb kr rfl hjt (fun p q hp hq => ?_)) | (refine ⟨0, rfl, Nat.le_of_ble_eq_true rfl, ?_⟩) | (refine ⟨1, rfl, Nat.le_of_ble_eq_true rfl, ?_⟩) | ((change vcFun _ _ _ _ _; refine call_diff (by omega) (by omega) ?_)) | ((change vcFun _ _ _ _ _; refine call_rdiff (by omega) (by omega) ?_)) | refine o1 ?_ | refine o2 ?_ | refine k1 ?_ | refine k2 ?_ | refine k3 ?_ | refine k4 ?_ | refine k6 ?_ | refine k7 ?_ | refine k8 ?_ | refine And.intro ?_ ?_ | exact trivial | refine o3 ?_ | refine o4 ?_ | refine o5 ?_ | refine o6 ?_ | refine k5 ?_ | (intro h; first | exact Bool.noConfusion h | exact nz _ h | exact nl h | (simp at h; done) | (simp at h; first | (exfalso; omega) | skip) | skip) | (change retOk _ _ _ _; refine ret_pure rfl trivial ?_) | exact (rfl : allOne _ = true) | (refine (?_ : (0 : Int) ≤ _); omega) | (refine (?_ : _ ≠ _); omega) | (refine (?_ : srcLen _ = rowsLen _); rfl) | exact Nat.le_of_ble_eq_true rfl | exact (by kernel_rfl : drawOk _ _ = true) | refine eqv_len_map ?_ | refine eqv_size ?_ | refine eqv_put (eqv_ck ?_) | refine eqv_zero ?_ | refine eqv_wrap (by omega) (by omega) ?_ | refine eqv_u64 (by omega) (by omega) ?_ | refine eqv_u8 (by omega) (by omega) ?_ | refine eqv_to _ (set_map rfl rfl) ?_ | refine ⟨_, _, (by first | rfl | assumption), at_map (by assumption), ?_⟩ | refine ⟨_, _, (by first | rfl | assumption), (by assumption), ?_⟩ | refine ⟨_, at_map (by assumption), (by decide), ?_⟩ | refine ⟨_, at_map (by assumption), ?_⟩ | (refine (?_ : _ ≤ 140737488355328); simp [rowsLen] <;> omega) | (refine (?_ : _ ≤ 9223372036854775807); simp [rowsLen] <;> omega) | (refine (?_ : _ = rowsLen _); simp [rowsLen] <;> omega) | refine eqv_to _ (app_row rfl) (eqv_to _ app_len ?_) | refine eqv_to _ (app_first rfl) (eqv_to 1 rfl ?_) | refine idx_sl (at_map (by assumption)) (by omega) ?_ | refine idx_ms _ (by first | rfl | assumption) (by first | assumption | omega) ?_ | (change vcFun _ _ _ _ _; refine call_eq rfl (by repeat' (first | trivial | refine And.intro ?_ ?_ | (show 0 + _ ≤ List.length _; simp))) ALeL.refl (c_samechgT _ diff_ok.c) rfl ?_) | fail)
      have kd := diff_ok (a := p) (b := q) (w := k)
      generalize diffV p q k = X at *
      refine loop_at (fun m : Nat => [(103, vint .i64 m)]) (fun _ => []) (fun m => m ≤ 2) (fun m => 2 - m) 0 (by omega) (by repeat' (first | exact trivial | exact rfl | exact ⟨_, rfl, ALe.refl⟩ | refine And.intro ?_ ?_)) (by repeat' (first | exact trivial | exact rfl | exact ⟨_, rfl, ALe.refl⟩ | refine And.intro ?_ ?_)) ?_
      intro m hm
      rcases Nat.lt_or_ge m 2 with hmt | hmg
      · repeat' (first | (refine two_load X odd kd ko rfl hmt (fun e he => ?_)) | (refine ⟨0, rfl, Nat.le_of_ble_eq_true rfl, ?_⟩) | ((change vcFun _ _ _ _ _; refine call_apply (by omega) he ?_)) | ((change vcFun _ _ _ _ _; refine call_rapply (by omega) he ?_)) | refine o1 ?_ | refine o2 ?_ | refine k1 ?_ | refine k2 ?_ | refine k3 ?_ | refine k4 ?_ | refine k6 ?_ | refine k7 ?_ | refine k8 ?_ | refine And.intro ?_ ?_ | exact trivial | refine o3 ?_ | refine o4 ?_ | refine o5 ?_ | refine o6 ?_ | refine k5 ?_ | (intro h; first | exact Bool.noConfusion h | exact nz _ h | exact nl h | (simp at h; done) | (simp at h; first | (exfalso; omega) | skip) | skip) | (change retOk _ _ _ _; refine ret_pure rfl trivial ?_) | exact (rfl : allOne _ = true) | (refine (?_ : (0 : Int) ≤ _); omega) | (refine (?_ : _ ≠ _); omega) | (refine (?_ : srcLen _ = rowsLen _); rfl) | exact Nat.le_of_ble_eq_true rfl | exact (by kernel_rfl : drawOk _ _ = true) | refine eqv_len_map ?_ | refine eqv_size ?_ | refine eqv_put (eqv_ck ?_) | refine eqv_zero ?_ | refine eqv_wrap (by omega) (by omega) ?_ | refine eqv_u64 (by omega) (by omega) ?_ | refine eqv_u8 (by omega) (by omega) ?_ | refine eqv_to _ (set_map rfl rfl) ?_ | refine ⟨_, _, (by first | rfl | assumption), at_map (by assumption), ?_⟩ | refine ⟨_, _, (by first | rfl | assumption), (by assumption), ?_⟩ | refine ⟨_, at_map (by assumption), (by decide), ?_⟩ | refine ⟨_, at_map (by assumption), ?_⟩ | (refine (?_ : _ ≤ 140737488355328); simp [rowsLen] <;> omega) | (refine (?_ : _ ≤ 9223372036854775807); simp [rowsLen] <;> omega) | (refine (?_ : _ = rowsLen _); simp [rowsLen] <;> omega) | refine eqv_to _ (app_row rfl) (eqv_to _ app_len ?_) | refine eqv_to _ (app_first rfl) (eqv_to 1 rfl ?_) | refine idx_sl (at_map (by assumption)) (by omega) ?_ | refine idx_ms _ (by first | rfl | assumption) (by first | assumption | omega) ?_ | (change vcFun _ _ _ _ _; refine call_eq rfl (by repeat' (first | trivial | refine And.intro ?_ ?_ | (show 0 + _ ≤ List.length _; simp))) ALeL.refl (c_sameT _ (Nat.le_trans applV_len (by decide))) rfl ?_) | fail)
        exact ⟨m + 1, by omega, by omega, back [0, 1, 2, 3, 4, 5] rfl rfl ⟨rfl, rfl, rfl, rfl, rfl, rfl, trivial⟩ (by repeat' (first | exact trivial | exact rfl | exact ⟨_, rfl, ALe.refl⟩ | refine And.intro ?_ ?_))⟩
      · repeat' (first | refine o1 ?_ | refine o2 ?_ | refine k1 ?_ | refine k2 ?_ | refine k3 ?_ | refine k4 ?_ | refine k6 ?_ | refine k7 ?_ | refine k8 ?_ | refine And.intro ?_ ?_ | exact trivial | refine o3 ?_ | refine o4 ?_ | refine o5 ?_ | refine o6 ?_ | refine k5 ?_ | (intro h; first | exact Bool.noConfusion h | exact nz _ h | exact nl h | (simp at h; done) | (simp at h; first | (exfalso; omega) | skip) | skip) | (change retOk _ _ _ _; refine ret_pure rfl trivial ?_) | exact (rfl : allOne _ = true) | (refine (?_ : (0 : Int) ≤ _); omega) | (refine (?_ : _ ≠ _); omega) | (refine (?_ : srcLen _ = rowsLen _); rfl) | exact Nat.le_of_ble_eq_true rfl | exact (by kernel_rfl : drawOk _ _ = true) | refine eqv_len_map ?_ | refine eqv_size ?_ | refine eqv_put (eqv_ck ?_) | refine eqv_zero ?_ | refine eqv_wrap (by omega) (by omega) ?_ | refine eqv_u64 (by omega) (by omega) ?_ | refine eqv_u8 (by omega) (by omega) ?_ | refine eqv_to _ (set_map rfl rfl) ?_ | refine ⟨_, _, (by first | rfl | assumption), at_map (by assumption), ?_⟩ | refine ⟨_, _, (by first | rfl | assumption), (by assumption), ?_⟩ | refine ⟨_, at_map (by assumption), (by decide), ?_⟩ | refine ⟨_, at_map (by assumption), ?_⟩ | (refine (?_ : _ ≤ 140737488355328); simp [rowsLen] <;> omega) | (refine (?_ : _ ≤ 9223372036854775807); simp [rowsLen] <;> omega) | (refine (?_ : _ = rowsLen _); simp [rowsLen] <;> omega) | refine eqv_to _ (app_row rfl) (eqv_to _ app_len ?_) | refine eqv_to _ (app_first rfl) (eqv_to 1 rfl ?_) | refine idx_sl (at_map (by assumption)) (by omega) ?_ | refine idx_ms _ (by first | rfl | assumption) (by first | assumption | omega) ?_ | fail)
        exact ⟨j + 1, by omega, by omega, back [0, 1, 2, 3] rfl rfl ⟨rfl, rfl, rfl, rfl, trivial⟩ (by repeat' (first | exact trivial | exact rfl | exact ⟨_, rfl, ALe.refl⟩ | refine And.intro ?_ ?_))⟩
    · repeat' (first | refine o1 ?_ | refine o2 ?_ | refine k1 ?_ | refine k2 ?_ | refine k3 ?_ | refine k4 ?_ | refine k6 ?_ | refine k7 ?_ | refine k8 ?_ | refine And.intro ?_ ?_ | exact trivial | refine o3 ?_ | refine o4 ?_ | refine o5 ?_ | refine o6 ?_ | refine k5 ?_ | (intro h; first | exact Bool.noConfusion h | exact nz _ h | exact nl h | (simp at h; done) | (simp at h; first | (exfalso; omega) | skip) | skip) | (change retOk _ _ _ _; refine ret_pure rfl trivial ?_) | exact (rfl : allOne _ = true) | (refine (?_ : (0 : Int) ≤ _); omega) | (refine (?_ : _ ≠ _); omega) | (refine (?_ : srcLen _ = rowsLen _); rfl) | exact Nat.le_of_ble_eq_true rfl | exact (by kernel_rfl : drawOk _ _ = true) | refine eqv_len_map ?_ | refine eqv_size ?_ | refine eqv_put (eqv_ck ?_) | refine eqv_zero ?_ | refine eqv_wrap (by omega) (by omega) ?_ | refine eqv_u64 (by omega) (by omega) ?_ | refine eqv_u8 (by omega) (by omega) ?_ | refine eqv_to _ (set_map rfl rfl) ?_ | refine ⟨_, _, (by first | rfl | assumption), at_map (by assumption), ?_⟩ | refine ⟨_, _, (by first | rfl | assumption), (by assumption), ?_⟩ | refine ⟨_, at_map (by assumption), (by decide), ?_⟩ | refine ⟨_, at_map (by assumption), ?_⟩ | (refine (?_ : _ ≤ 140737488355328); simp [rowsLen] <;> omega) | (refine (?_ : _ ≤ 9223372036854775807); simp [rowsLen] <;> omega) | (refine (?_ : _ = rowsLen _); simp [rowsLen] <;> omega) | refine eqv_to _ (app_row rfl) (eqv_to _ app_len ?_) | refine eqv_to _ (app_first rfl) (eqv_to 1 rfl ?_) | refine idx_sl (at_map (by assumption)) (by omega) ?_ | refine idx_ms _ (by first | rfl | assumption) (by first | assumption | omega) ?_ | fail)
      exact ⟨i + 1, by omega, by omega, back [0, 1, 2] rfl rfl ⟨rfl, rfl, rfl, trivial⟩ (by repeat' (first | exact trivial | exact rfl | exact ⟨_, rfl, ALe.refl⟩ | refine And.intro ?_ ?_))⟩
  · repeat' (first | refine o1 ?_ | refine o2 ?_ | refine k1 ?_ | refine k2 ?_ | refine k3 ?_ | refine k4 ?_ | refine k6 ?_ | refine k7 ?_ | refine k8 ?_ | refine And.intro ?_ ?_ | exact trivial | refine o3 ?_ | refine o4 ?_ | refine o5 ?_ | refine o6 ?_ | refine k5 ?_ | (intro h; first | exact Bool.noConfusion h | exact nz _ h | exact nl h | (simp at h; done) | (simp at h; first | (exfalso; omega) | skip) | skip) | (change retOk _ _ _ _; refine ret_pure rfl trivial ?_) | exact (rfl : allOne _ = true) | (refine (?_ : (0 : Int) ≤ _); omega) | (refine (?_ : _ ≠ _); omega) | (refine (?_ : srcLen _ = rowsLen _); rfl) | exact Nat.le_of_ble_eq_true rfl | exact (by kernel_rfl : drawOk _ _ = true) | refine eqv_len_map ?_ | refine eqv_size ?_ | refine eqv_put (eqv_ck ?_) | refine eqv_zero ?_ | refine eqv_wrap (by omega) (by omega) ?_ | refine eqv_u64 (by omega) (by omega) ?_ | refine eqv_u8 (by omega) (by omega) ?_ | refine eqv_to _ (set_map rfl rfl) ?_ | refine ⟨_, _, (by first | rfl | assumption), at_map (by assumption), ?_⟩ | refine ⟨_, _, (by first | rfl | assumption), (by assumption), ?_⟩ | refine ⟨_, at_map (by assumption), (by decide), ?_⟩ | refine ⟨_, at_map (by assumption), ?_⟩ | (refine (?_ : _ ≤ 140737488355328); simp [rowsLen] <;> omega) | (refine (?_ : _ ≤ 9223372036854775807); simp [rowsLen] <;> omega) | (refine (?_ : _ = rowsLen _); simp [rowsLen] <;> omega) | refine eqv_to _ (app_row rfl) (eqv_to _ app_len ?_) | refine eqv_to _ (app_first rfl) (eqv_to 1 rfl ?_) | refine idx_sl (at_map (by assumption)) (by omega) ?_ | refine idx_ms _ (by first | rfl | assumption) (by first | assumption | omega) ?_ | (change vcFun _ _ _ _ _; refine call_eq rfl (by repeat' (first | trivial | refine And.intro ?_ ?_ | (show 0 + _ ≤ List.length _; simp))) ALeL.refl (awake_ok) rfl ?_) | (change vcFunD _ _ _ _ _; refine callD_eq rfl (by repeat' (first | trivial | refine And.intro ?_ ?_ | (show 0 + _ ≤ List.length _; simp))) ALeL.refl (awake_ok) rfl ?_) | fail)
    exact rfl
end Go.Proofs.YtbcacaodfpgflaaGreatDoor.Cw

/-
  What the laws of chapter 34 are handed, with the lengths of its slices.
-/
namespace Go.Proofs.YtbcacaodfpgflaaGreatDoor.Cw
open Go.Cw Go.Proofs
set_option linter.unusedVariables false
set_option maxRecDepth 100000

section
variable {N : TypeId → Nat}
theorem in_int {qs : List PV} (h : PTyN T N 3 qs) : ∃ n : Int, qs = [ei n] ∧ -9223372036854775808 ≤ n ∧ n ≤ 9223372036854775807 := kd_int (by kernel_rfl) h
theorem in_str {qs : List PV} (h : PTyN T N 9 qs) : ∃ s : Str, qs = [es s] := by
  obtain ⟨s, h, _⟩ := kd_str (by kernel_rfl) h
  exact ⟨s, h⟩
theorem in_int1 {qs : List PV} (h : PTyN T N 3 qs) : ∃ n : Int, qs = [ei n] := by
  obtain ⟨s, h, _⟩ := in_int h
  exact ⟨s, h⟩
theorem in_ints {qs : List PV} (h : PTyN T N 24 qs) : ∃ l : List Int, qs = [encInts l] := by
  obtain ⟨l, h, _⟩ := kd_slice (fun s => [ei s]) (fun _ => True) (e := 3) (z := 1) (by kernel_rfl) (fun r hr => by obtain ⟨s, h⟩ := in_int1 hr; exact ⟨s, h, trivial⟩) h
  exact ⟨l, h⟩
theorem in_time {qs : List PV} (h : PTyN T N 49 qs) : ∃ x : Time, qs = x.row := by
  obtain ⟨_, _, rfl, h1, h⟩ := kd_cons (kd_struct (ts := [3, 3, 3, 3]) (by kernel_rfl) h)
  obtain ⟨_, _, rfl, h2, h⟩ := kd_cons h
  obtain ⟨_, _, rfl, h3, h⟩ := kd_cons h
  obtain ⟨_, _, rfl, h4, h⟩ := kd_cons h
  obtain rfl := kd_nil h
  obtain ⟨a, rfl⟩ := in_int1 h1
  obtain ⟨b, rfl⟩ := in_int1 h2
  obtain ⟨c, rfl⟩ := in_int1 h3
  obtain ⟨d, rfl⟩ := in_int1 h4
  exact ⟨⟨a, b, c, d⟩, rfl⟩
theorem in_sess1 {qs : List PV} (h : PTyN T N 51 qs) : ∃ x : Sess, qs = x.row := by
  obtain ⟨_, _, rfl, h1, h⟩ := kd_cons (kd_struct (ts := [9, 49, 9]) (by kernel_rfl) h)
  obtain ⟨_, _, rfl, h2, h⟩ := kd_cons h
  obtain ⟨_, _, rfl, h3, h⟩ := kd_cons h
  obtain rfl := kd_nil h
  obtain ⟨a, rfl⟩ := in_str h1
  obtain ⟨b, rfl⟩ := in_time h2
  obtain ⟨c, rfl⟩ := in_str h3
  exact ⟨⟨a, b, c⟩, rfl⟩
theorem in_sess {qs : List PV} (h : PTyN T N 22 qs) : ∃ l : List Sess, qs = [encSess l] ∧ l.length ≤ N 51 := by
  obtain ⟨l, h, hl, _⟩ := kd_slice Sess.row (fun _ => True) (e := 51) (z := 6) (by kernel_rfl) (fun r hr => by obtain ⟨s, h⟩ := in_sess1 hr; exact ⟨s, h, trivial⟩) h
  exact ⟨l, h, hl⟩
theorem in_chg {qs : List PV} (h : PTyN T N 54 qs) : ∃ x : Chg, qs = x.row ∧ x.bef.length ≤ N 51 ∧ x.aft.length ≤ N 51 := by
  obtain ⟨_, _, rfl, h1, h⟩ := kd_cons (kd_struct (ts := [9, 22, 22]) (by kernel_rfl) h)
  obtain ⟨_, _, rfl, h2, h⟩ := kd_cons h
  obtain ⟨_, _, rfl, h3, h⟩ := kd_cons h
  obtain rfl := kd_nil h
  obtain ⟨a, rfl⟩ := in_str h1
  obtain ⟨b, rfl, hb⟩ := in_sess h2
  obtain ⟨c, rfl, hc⟩ := in_sess h3
  exact ⟨⟨a, b, c⟩, rfl, hb, hc⟩
theorem in_chgs {qs : List PV} (h : PTyN T N 23 qs) : ∃ l : List Chg, qs = [encChgs l] ∧ l.length ≤ N 54 ∧ ∀ x ∈ l, x.bef.length ≤ N 51 ∧ x.aft.length ≤ N 51 := 
  kd_slice Chg.row (fun x => x.bef.length ≤ N 51 ∧ x.aft.length ≤ N 51) (e := 54) (z := 3) (by kernel_rfl) (fun r hr => in_chg hr) h
theorem args_sess {ts : List TypeId} {al : List AV} (h : ArgsN T N (22 :: ts) al) : ∃ (l : List Sess) (al' : _), al = .pv (encSess l) :: al' ∧ l.length ≤ N 51 ∧ ArgsN T N ts al' := by
  obtain ⟨q, al', rfl, h1, h2⟩ := args_one (by kernel_rfl) h
  obtain ⟨l, h, hl⟩ := in_sess h1
  injection h with h; subst h
  exact ⟨l, al', rfl, hl, h2⟩
theorem args_chgs {ts : List TypeId} {al : List AV} (h : ArgsN T N (23 :: ts) al) : ∃ (l : List Chg) (al' : _), al = .pv (encChgs l) :: al' ∧ (l.length ≤ N 54 ∧ ∀ x ∈ l, x.bef.length ≤ N 51 ∧ x.aft.length ≤ N 51) ∧ ArgsN T N ts al' := by
  obtain ⟨q, al', rfl, h1, h2⟩ := args_one (by kernel_rfl) h
  obtain ⟨l, h, hl⟩ := in_chgs h1
  injection h with h; subst h
  exact ⟨l, al', rfl, hl, h2⟩
theorem args_ints {ts : List TypeId} {al : List AV} (h : ArgsN T N (24 :: ts) al) : ∃ (l : List Int) (al' : _), al = .pv (encInts l) :: al' ∧ ArgsN T N ts al' := by
  obtain ⟨q, al', rfl, h1, h2⟩ := args_one (by kernel_rfl) h
  obtain ⟨l, h⟩ := in_ints h1
  injection h with h; subst h
  exact ⟨l, al', rfl, h2⟩
theorem args_int {ts : List TypeId} {al : List AV} (h : ArgsN T N (3 :: ts) al) : ∃ (n : Int) (al' : _), al = vint .i64 n :: al' ∧ -9223372036854775808 ≤ n ∧ n ≤ 9223372036854775807 ∧ ArgsN T N ts al' := by
  obtain ⟨q, al', rfl, h1, h2⟩ := args_one (by kernel_rfl) h
  obtain ⟨n, h, a, b⟩ := in_int h1
  injection h with h; subst h
  exact ⟨n, al', rfl, a, b, h2⟩
theorem args_nil {al : List AV} (h : ArgsN T N [] al) : al = [] := by cases h; rfl
end
end Go.Proofs.YtbcacaodfpgflaaGreatDoor.Cw

/-
  How long the lists are that the law ChangesJoins is handed.
-/
namespace Go.Proofs.YtbcacaodfpgflaaGreatDoor.Cw
open Go Go.Cw Go.Proofs
set_option linter.unusedVariables false
theorem sess_w : wN Tryz.prog 51 ≤ 2199023255552 := Nat.le_of_ble_eq_true (by kernel_rfl)
theorem chg_w : wN Tryz.prog 54 ≤ 9223372036854775807 := Nat.le_of_ble_eq_true (by kernel_rfl)
theorem chgsL_w {l : List Chg} (h : ∀ x ∈ l, x.bef.length ≤ wN Tryz.prog 51 ∧ x.aft.length ≤ wN Tryz.prog 51) : ChgsL l := fun x hx => ⟨Nat.le_trans (h x hx).1 sess_w, Nat.le_trans (h x hx).2 sess_w⟩
end Go.Proofs.YtbcacaodfpgflaaGreatDoor.Cw

/-
  How long what a law is handed is, where all of it holds at most 1048576 values.
-/
namespace Go.Proofs.YtbcacaodfpgflaaGreatDoor.Cw
open Go Go.Cw Go.Proofs
set_option linter.unusedVariables false
def upN : TypeId → Nat := fun _ => 1048576
section
variable {H : Type} {P : Program}
theorem one_up (d : DataW H) : 1 ≤ Rows.uptoBulk d := by
  cases d with
  | lit l => cases l <;> simp [Rows.uptoBulk]
  | nil => simp [Rows.uptoBulk]
  | ptr d => simp [Rows.uptoBulk]
  | slice elems spare => simp [Rows.uptoBulk]
  | agg parts => simp [Rows.uptoBulk]
  | iface t d => simp [Rows.uptoBulk]
  | map entries => simp [Rows.uptoBulk]
  | held h => simp [Rows.uptoBulk]
theorem part_up {d : DataW H} {l : List (DataW H)} (h : d ∈ l) : Rows.uptoBulk d ≤ Rows.uptoBulkAll l := by
  induction l with
  | nil => cases h
  | cons x r ih =>
    simp only [Rows.uptoBulkAll]
    cases List.mem_cons.1 h with
    | inl e => subst e; omega
    | inr e => have := ih e; omega
theorem len_up (l : List (DataW H)) : l.length ≤ Rows.uptoBulkAll l := by
  induction l with
  | nil => simp [Rows.uptoBulkAll]
  | cons x r ih => have := one_up x; simp only [Rows.uptoBulkAll, List.length_cons]; omega
theorem bnd_up : Bnd P (fun _ (d : DataW H) => Rows.uptoBulk d ≤ 1048576) upN := by
  constructor
  · intro t e elems spare _ h
    simp only [Rows.uptoBulk] at h
    have h1 := len_up elems
    refine ⟨fun _ => ?_, fun d hd => ?_⟩
    · show elems.length ≤ 1048576
      omega
    · have := part_up hd; omega
  · intro t fs parts _ h i f d _ hd
    simp only [Rows.uptoBulk] at h
    have := part_up (List.mem_of_getElem? hd); omega
theorem up_of {ts : List TypeId} {ds gs : List (DataW H)} (h : Rows.uptoSmall H (ds ++ gs) = true) : ∀ (j : Nat) (t : TypeId) d, ts[j]? = some t → ds[j]? = some d → Rows.uptoBulk d ≤ 1048576 := fun j t d _ hd => by
  have h := of_decide_eq_true h
  have := part_up (List.mem_append_left gs (List.mem_of_getElem? hd))
  omega
end
end Go.Proofs.YtbcacaodfpgflaaGreatDoor.Cw

/-
  The tables of math/bits that the cards lay: where they lie, and what they hold. No conditions.
-/
namespace Go.Proofs.YtbcacaodfpgflaaGreatDoor
open Go Go.Cw Go.Proofs
set_option maxRecDepth 100000

def laid2 : List (String × DataW Unit) := [("math/bits.deBruijn32tab", Rows.laid_math_bits_deBruijn32tab), ("math/bits.deBruijn64tab", Rows.laid_math_bits_deBruijn64tab)]
def tab64 : List Int := Go.Lib.deBruijn64tab.map Int.ofNat
theorem tab64_laid : (Rows.laid_math_bits_deBruijn64tab : DataW Unit) = Go.Lib.tabData .u8 tab64 := by kernel_rfl
theorem tab64_vt : VT = [(1, tab64.map fun z => .val (.int .u8 z))] := by kernel_rfl
theorem g64 : Tryz.prog.globalNamed "math/bits.deBruijn64tab" = some 1 := by kernel_rfl
theorem in_heap {w : World} {a : Addr} {v : Value} (h : w.cell? a = some v) : a.block < w.heap.size := by
  unfold World.cell? at h
  split at h
  · rename_i hb; exact (Array.getElem?_eq_some_iff.1 hb).1
  · cases h
theorem gl_of {W : World} (h : laidMetH Tryz.prog laid2 W) : Gl (fun b => b < W.heap.size) W := by
  rw [MakeChecks.laidMetH_plain _ _ _ (by kernel_rfl)] at h
  have h2 : laidMet Tryz.prog [("math/bits.deBruijn64tab", Rows.laid_math_bits_deBruijn64tab)] W := Go.laidMet.tail h
  rw [tab64_laid] at h2
  have ht := Go.Lib.tabIs_of_head (g := 1) (t := 114) (e := 5) (n := 64) g64 (by kernel_rfl) (by kernel_rfl) (by kernel_rfl) (by kernel_rfl) (by kernel_rfl) h2
  have hl : tab64.length = 64 := by kernel_rfl
  intro e he
  rw [tab64_vt] at he
  obtain rfl := List.mem_singleton.1 he
  refine PRel.ia (u := fun j => .int .u8 (tab64.getD j 0)) ?_ (fun j hj => ?_) fun j p hp => ?_
  · exact in_heap (Go.Lib.TabIs.cell ht g64 0 (by rw [hl]; decide))
  · have hj2 : j < tab64.length := by simpa using hj
    refine ⟨?_, rfl⟩
    rw [← Go.Lib.TabIs.cell ht g64 j hj2]
    unfold Addr.add
    split
    · rename_i e; rw [e]
    · simp
  · dsimp only at hp
    rw [List.getElem?_map] at hp
    cases hz : tab64[j]? with
    | none => rw [hz] at hp; cases hp
    | some z =>
      rw [hz] at hp
      cases hp
      have : tab64.getD j 0 = z := by rw [List.getD_eq_getElem?_getD, hz]; rfl
      rw [this]
      exact .val _
end Go.Proofs.YtbcacaodfpgflaaGreatDoor

/-
  What the laws ChangesAlgebra, ChangesJoins and ChangesDiffs share.
-/
