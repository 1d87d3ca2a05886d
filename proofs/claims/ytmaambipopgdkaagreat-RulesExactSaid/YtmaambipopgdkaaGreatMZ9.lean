/-
  Part 9 of the proof (K11, K11e, K12, RM2, RM3): what later parts use. No conditions.
-/
import Derived.Test.YtmaambipopgdkaaGreatMZ8

/-
  The reference's table of the shortest ways.
-/
namespace Go.Proofs.YtmaambipopgdkaaGreat.Cw
open Go Go.Cw Go.Proofs
set_option linter.unusedVariables false
set_option maxRecDepth 100000
set_option maxHeartbeats 8000000
def strO (B : List Str) : AObj := ⟨9, 1, false, .p (B.map fun s => [es s])⟩
def unkE (a c : Nat) : Int := if a = c then 0 else -1
/-- The row that is being filled. -/
def unkP (i k a c : Nat) : Int := if c < k then unkE i c else 0
theorem unk_zero {i n : Nat} : List.replicate n [ei 0] = (rowL n (unkP i 0) i).map fun n => [ei n] := by
  apply List.ext_getElem?
  intro c
  rw [List.getElem?_replicate, List.getElem?_map]
  by_cases h : c < n
  · rw [if_pos h, rowL_at h]; rfl
  · rw [if_neg h, List.getElem?_eq_none (by rw [rowL_len]; omega)]; rfl
theorem unk_set {i k n : Nat} (hk : k < n) (h : ¬ k = i) : (rowL n (unkP i k) i).set k (-1) = rowL n (unkP i (k + 1)) i := rowL_set hk fun c hc => by
  unfold unkP unkE
  (repeat' split) <;> omega
theorem unk_same {i n : Nat} (hi : i < n) : rowL n (unkP i i) i = rowL n (unkP i (i + 1)) i := rowL_congr fun c hc => by
  unfold unkP unkE
  (repeat' split) <;> omega
theorem unk_all {i n : Nat} : rowL n (unkP i n) i = rowL n unkE i := rowL_congr fun c hc => if_pos hc
theorem ren_cells {d n m : Nat} (h : m ≤ 8) : (cellsI 2 n m).map (renL d [0, 3, 4, 5, 6, 7, 8, 9, 10, 11]) = cellsI 4 n m := by
  match m, h with
  | 0, _ => rfl
  | 1, _ => rfl
  | 2, _ => rfl
  | 3, _ => rfl
  | 4, _ => rfl
  | 5, _ => rfl
  | 6, _ => rfl
  | 7, _ => rfl
  | 8, _ => rfl
theorem c_unknown (B : List Str) (hn : 0 < B.length ∧ B.length ≤ 8) : ACall Tryz.prog 231 [.ms 0 1 0 B.length] [some (strO B)]
    (fun r H' => r = .agg [.ms 0 1 0 B.length, .ms 1 1 0 B.length] ∧ H' = some (strO B) :: some ⟨24, 1, false, .m (cellsI 2 B.length B.length)⟩ :: tailT (matL B.length unkE) B.length) := by
  obtain ⟨hp, hn⟩ := hn
  refine acall_of tok mixed 37 rfl (fn := Tryz.f231) (c := Tryz.f231.body.getD .skip) (by kernel_rfl) (by kernel_rfl) (by kernel_rfl) rfl 1 rfl ?_
  repeat' (first | refine o1 ?_ | refine o2 ?_ | refine k1 ?_ | refine k2 ?_ | refine k4 ?_ | refine And.intro ?_ ?_ | exact (by kernel_rfl : drawOk _ _ = true) | fail)
  refine loop_in (fun i : Nat => [(4, vint .i64 i)]) (fun i => some (strO B) :: some ⟨31, 2, false, .box [.pv (.val (.slice none 0 0)), .pv (.val (.slice none 0 0))]⟩ :: some ⟨31, 2, false, .box [.ms 0 1 0 B.length, outV i]⟩ :: outO B.length i :: tailT (matL B.length unkE) i) (fun i => i ≤ B.length) (fun i => B.length - i) 0 (Nat.zero_le _) ⟨?_, ?_⟩
  · exact back [0, 1, 2, 3, 4, 5, 6, 7, 8, 9, 10, 11] rfl rfl ⟨rfl, rfl, rfl, trivial⟩ (by repeat' (first | exact trivial | exact rfl | refine And.intro ?_ ?_))
  intro i hi
  rcases Nat.lt_or_ge i B.length with hlt | hge
  · have hnew : obP 3 1 (qT (matL B.length unkE) i (i + 1)) = some (rowO (rowL B.length (unkP i B.length) i)) := by
      have e : (matL B.length unkE).getD i [] = rowL B.length unkE i := by rw [List.getD_eq_getElem?_getD, matL_at hlt]; rfl
      rw [qT_in (by omega), e, unk_all, ob_row (by rw [rowL_len]; omega)]
    by_cases h0 : i = 0
    · subst h0
      repeat' (first | (refine ⟨B.length, B.length, rfl, rfl, Nat.le_refl _, by omega, by omega, eqv_to _ (unk_zero (i := 0)) ?_⟩) | refine o1 ?_ | refine o2 ?_ | refine k1 ?_ | refine k2 ?_ | refine k3 ?_ | refine k4 ?_ | refine k6 ?_ | refine k7 ?_ | refine k8 ?_ | refine And.intro ?_ ?_ | (intro h; first | exact Bool.noConfusion h | exact nz _ h | exact nl h | (simp at h; done) | (simp at h; first | (exfalso; omega) | skip) | skip) | exact (by kernel_rfl : drawOk _ _ = true) | fail)
      all_goals first
        | exact absurd (by assumption : B = []) (fun e => by rw [e] at hp; simp at hp)
        | skip
      refine loop_in (fun k : Nat => [(6, vint .i64 k)]) (fun k => [some (strO B), some ⟨31, 2, false, .box [.pv (.val (.slice none 0 0)), .pv (.val (.slice none 0 0))]⟩, some ⟨31, 2, false, .box [.ms 0 1 0 B.length, .pv (.val (.slice none 0 0))]⟩, none, none, none, none, none, none, none, none, none, some (rowO (rowL B.length (unkP 0 k) 0))]) (fun k => k ≤ B.length) (fun k => B.length - k) 0 (Nat.zero_le _) ⟨?_, ?_⟩
      · exact back [0, 1, 2, 3, 4, 5, 6, 7, 8, 9, 10, 11, 12] rfl rfl (by repeat' (first | exact True.intro | exact rfl | refine And.intro ?_ ?_)) (by repeat' (first | exact trivial | exact rfl | refine And.intro ?_ ?_))
      intro k hk
      have hrl : (rowL B.length (unkP 0 k) 0).length = B.length := rowL_len
      rcases Nat.lt_or_ge k B.length with hkl | hkg
      · have hset := unk_set (i := 0) hkl
        have hsame := unk_same (i := 0) hlt
        have hat := rowL_at (D := unkP 0 k) (i := 0) hkl
        repeat' (first | refine o1 ?_ | refine o2 ?_ | refine k1 ?_ | refine k2 ?_ | refine k3 ?_ | refine k4 ?_ | refine k6 ?_ | refine And.intro ?_ ?_ | (intro h; first | exact Bool.noConfusion h | exact nz _ h | exact nl h | (simp at h; done) | (simp at h; first | (exfalso; omega) | skip) | skip) | exact Nat.le_of_ble_eq_true rfl | refine eqv_zero ?_ | refine eqv_wrap (by omega) (by omega) ?_ | refine eqv_to _ (set_map rfl rfl) ?_ | refine ⟨_, at_map (by assumption), ?_⟩ | refine idx_ms _ (by first | rfl | assumption) (by first | assumption | omega) ?_ | fail)
        · refine ⟨k + 1, by omega, by omega, ?_⟩
          rw [← hset (by omega)]
          exact back_same (by repeat (first | exact keep_nil | refine keep_cons rfl ?_))
        · refine ⟨k + 1, by omega, by omega, ?_⟩
          obtain rfl : k = 0 := by omega
          rw [← hsame]
          exact back_same (by repeat (first | exact keep_nil | refine keep_cons rfl ?_))
      · obtain rfl : k = B.length := by omega
        repeat' (first | ((refine eqv_to (Rows.m [[.ms 12 1 0 B.length]]) rfl (eqv_to 1 rfl ?_))) | refine o1 ?_ | refine o2 ?_ | refine k1 ?_ | refine k2 ?_ | refine k3 ?_ | refine k8 ?_ | refine And.intro ?_ ?_ | (intro h; first | exact Bool.noConfusion h | exact nz _ h | exact nl h | (simp at h; done) | (simp at h; first | (exfalso; omega) | skip) | skip) | (refine (?_ : srcLen _ = rowsLen _); rfl) | exact Nat.le_of_ble_eq_true rfl | refine eqv_wrap (by omega) (by omega) ?_ | fail)
        exact ⟨1, by omega, by omega, back [0, 1, 2, 14, 12, 5, 6, 7, 8, 9, 10, 11] rfl rfl (by repeat' (first | exact trivial | exact rfl | refine kept_ob ?_ ?_ | refine And.intro ?_ ?_ | exact congrArg some hnew.symm)) (by repeat' (first | exact trivial | exact rfl | refine And.intro ?_ ?_))⟩
    · have hpos : 0 < i := by omega
      rw [outV_pos hpos, outO_pos hpos, show tailT (matL B.length unkE) i = [obP 3 1 (qT (matL B.length unkE) 0 i), obP 3 1 (qT (matL B.length unkE) 1 i), obP 3 1 (qT (matL B.length unkE) 2 i), obP 3 1 (qT (matL B.length unkE) 3 i), obP 3 1 (qT (matL B.length unkE) 4 i), obP 3 1 (qT (matL B.length unkE) 5 i), obP 3 1 (qT (matL B.length unkE) 6 i), obP 3 1 (qT (matL B.length unkE) 7 i)] from rfl]
      have hcn : (cellsI 4 B.length i).length = i := cellsI_len
      generalize hp0 : qT (matL B.length unkE) 0 i = p0
      generalize hp1 : qT (matL B.length unkE) 1 i = p1
      generalize hp2 : qT (matL B.length unkE) 2 i = p2
      generalize hp3 : qT (matL B.length unkE) 3 i = p3
      generalize hp4 : qT (matL B.length unkE) 4 i = p4
      generalize hp5 : qT (matL B.length unkE) 5 i = p5
      generalize hp6 : qT (matL B.length unkE) 6 i = p6
      generalize hp7 : qT (matL B.length unkE) 7 i = p7
      repeat' (first | (refine fh_ob ?_) | (refine ⟨B.length, B.length, rfl, rfl, Nat.le_refl _, by omega, by omega, eqv_to _ (unk_zero (i := i)) ?_⟩) | refine o1 ?_ | refine o2 ?_ | refine k1 ?_ | refine k2 ?_ | refine k3 ?_ | refine k4 ?_ | refine k6 ?_ | refine And.intro ?_ ?_ | (intro h; first | exact Bool.noConfusion h | exact nz _ h | exact nl h | (simp at h; done) | (simp at h; first | (exfalso; omega) | skip) | skip) | exact (by kernel_rfl : drawOk _ _ = true) | fail)
      all_goals first
        | exact absurd (by assumption : B = []) (fun e => by rw [e] at hp; simp at hp)
        | skip
      refine loop_in (fun k : Nat => [(6, vint .i64 k)]) (fun k => [some (strO B), some ⟨31, 2, false, .box [.pv (.val (.slice none 0 0)), .pv (.val (.slice none 0 0))]⟩, some ⟨31, 2, false, .box [.ms 0 1 0 B.length, .ms 3 1 0 i]⟩, some ⟨24, 1, false, .m (cellsI 4 B.length i)⟩, obP 3 1 p0, obP 3 1 p1, obP 3 1 p2, obP 3 1 p3, obP 3 1 p4, obP 3 1 p5, obP 3 1 p6, obP 3 1 p7, some (rowO (rowL B.length (unkP i k) i))]) (fun k => k ≤ B.length) (fun k => B.length - k) 0 (Nat.zero_le _) ⟨?_, ?_⟩
      · exact back_same (by repeat (first | exact keep_nil | refine keep_cons rfl ?_))
      intro k hk
      have hrl : (rowL B.length (unkP i k) i).length = B.length := rowL_len
      rcases Nat.lt_or_ge k B.length with hkl | hkg
      · have hset := unk_set (i := i) hkl
        have hsame := unk_same (i := i) hlt
        have hat := rowL_at (D := unkP i k) (i := i) hkl
        repeat' (first | (refine fh_ob ?_) | refine o1 ?_ | refine o2 ?_ | refine k1 ?_ | refine k2 ?_ | refine k3 ?_ | refine k4 ?_ | refine k6 ?_ | refine And.intro ?_ ?_ | (intro h; first | exact Bool.noConfusion h | exact nz _ h | exact nl h | (simp at h; done) | (simp at h; first | (exfalso; omega) | skip) | skip) | exact Nat.le_of_ble_eq_true rfl | refine eqv_zero ?_ | refine eqv_wrap (by omega) (by omega) ?_ | refine eqv_to _ (set_map rfl rfl) ?_ | refine ⟨_, at_map (by assumption), ?_⟩ | refine idx_ms _ (by first | rfl | assumption) (by first | assumption | omega) ?_ | fail)
        · refine ⟨k + 1, by omega, by omega, ?_⟩
          rw [← hset (by omega)]
          exact back_same (by repeat (first | exact keep_nil | refine keep_cons rfl ?_))
        · refine ⟨k + 1, by omega, by omega, ?_⟩
          obtain rfl : k = i := by omega
          rw [← hsame]
          exact back_same (by repeat (first | exact keep_nil | refine keep_cons rfl ?_))
      · obtain rfl : k = B.length := by omega
        repeat' (first | (refine fh_ob ?_) | ((refine eqv_to (Rows.m (cellsI 4 B.length i ++ [[.ms 12 1 0 B.length]])) rfl (eqv_to (i + 1) (by simp [rowsLen, cellsI_len]) ?_))) | refine o1 ?_ | refine o2 ?_ | refine k1 ?_ | refine k2 ?_ | refine k3 ?_ | refine k8 ?_ | refine And.intro ?_ ?_ | (intro h; first | exact Bool.noConfusion h | exact nz _ h | exact nl h | (simp at h; done) | (simp at h; first | (exfalso; omega) | skip) | skip) | (refine (?_ : srcLen _ = rowsLen _); rfl) | refine eqv_wrap (by omega) (by omega) ?_ | (refine (?_ : _ ≤ 140737488355328); simp [rowsLen] <;> omega) | (refine (?_ : _ ≤ 9223372036854775807); simp [rowsLen] <;> omega) | (refine (?_ : _ = rowsLen _); simp [rowsLen] <;> omega) | fail)
        subst hp0 hp1 hp2 hp3 hp4 hp5 hp6 hp7
        clear hcn
        have h8 : i = 1 ∨ i = 2 ∨ i = 3 ∨ i = 4 ∨ i = 5 ∨ i = 6 ∨ i = 7 := by omega
        rcases h8 with rfl | rfl | rfl | rfl | rfl | rfl | rfl
        · exact ⟨2, by omega, by omega, back [0, 1, 2, 14, 4, 12, 6, 7, 8, 9, 10, 11] rfl rfl (by repeat' (first | exact trivial | exact rfl | refine kept_ob ?_ ?_ | refine And.intro ?_ ?_ | exact congrArg some hnew.symm)) (by repeat' (first | exact trivial | exact rfl | refine And.intro ?_ ?_))⟩
        · exact ⟨3, by omega, by omega, back [0, 1, 2, 14, 4, 5, 12, 7, 8, 9, 10, 11] rfl rfl (by repeat' (first | exact trivial | exact rfl | refine kept_ob ?_ ?_ | refine And.intro ?_ ?_ | exact congrArg some hnew.symm)) (by repeat' (first | exact trivial | exact rfl | refine And.intro ?_ ?_))⟩
        · exact ⟨4, by omega, by omega, back [0, 1, 2, 14, 4, 5, 6, 12, 8, 9, 10, 11] rfl rfl (by repeat' (first | exact trivial | exact rfl | refine kept_ob ?_ ?_ | refine And.intro ?_ ?_ | exact congrArg some hnew.symm)) (by repeat' (first | exact trivial | exact rfl | refine And.intro ?_ ?_))⟩
        · exact ⟨5, by omega, by omega, back [0, 1, 2, 14, 4, 5, 6, 7, 12, 9, 10, 11] rfl rfl (by repeat' (first | exact trivial | exact rfl | refine kept_ob ?_ ?_ | refine And.intro ?_ ?_ | exact congrArg some hnew.symm)) (by repeat' (first | exact trivial | exact rfl | refine And.intro ?_ ?_))⟩
        · exact ⟨6, by omega, by omega, back [0, 1, 2, 14, 4, 5, 6, 7, 8, 12, 10, 11] rfl rfl (by repeat' (first | exact trivial | exact rfl | refine kept_ob ?_ ?_ | refine And.intro ?_ ?_ | exact congrArg some hnew.symm)) (by repeat' (first | exact trivial | exact rfl | refine And.intro ?_ ?_))⟩
        · exact ⟨7, by omega, by omega, back [0, 1, 2, 14, 4, 5, 6, 7, 8, 9, 12, 11] rfl rfl (by repeat' (first | exact trivial | exact rfl | refine kept_ob ?_ ?_ | refine And.intro ?_ ?_ | exact congrArg some hnew.symm)) (by repeat' (first | exact trivial | exact rfl | refine And.intro ?_ ?_))⟩
        · exact ⟨8, by omega, by omega, back [0, 1, 2, 14, 4, 5, 6, 7, 8, 9, 10, 12] rfl rfl (by repeat' (first | exact trivial | exact rfl | refine kept_ob ?_ ?_ | refine And.intro ?_ ?_ | exact congrArg some hnew.symm)) (by repeat' (first | exact trivial | exact rfl | refine And.intro ?_ ?_))⟩
  · obtain rfl : i = B.length := by omega
    rw [outV_pos hp, outO_pos hp, show tailT (matL B.length unkE) B.length = [obP 3 1 (qT (matL B.length unkE) 0 B.length), obP 3 1 (qT (matL B.length unkE) 1 B.length), obP 3 1 (qT (matL B.length unkE) 2 B.length), obP 3 1 (qT (matL B.length unkE) 3 B.length), obP 3 1 (qT (matL B.length unkE) 4 B.length), obP 3 1 (qT (matL B.length unkE) 5 B.length), obP 3 1 (qT (matL B.length unkE) 6 B.length), obP 3 1 (qT (matL B.length unkE) 7 B.length)] from rfl]
    generalize hp0 : qT (matL B.length unkE) 0 B.length = p0
    generalize hp1 : qT (matL B.length unkE) 1 B.length = p1
    generalize hp2 : qT (matL B.length unkE) 2 B.length = p2
    generalize hp3 : qT (matL B.length unkE) 3 B.length = p3
    generalize hp4 : qT (matL B.length unkE) 4 B.length = p4
    generalize hp5 : qT (matL B.length unkE) 5 B.length = p5
    generalize hp6 : qT (matL B.length unkE) 6 B.length = p6
    generalize hp7 : qT (matL B.length unkE) 7 B.length = p7
    repeat' (first | (refine fh_ob ?_) | refine o1 ?_ | refine o2 ?_ | refine k1 ?_ | refine k2 ?_ | refine k3 ?_ | refine k7 ?_ | refine k8 ?_ | refine And.intro ?_ ?_ | (intro h; first | exact Bool.noConfusion h | exact nz _ h | exact nl h | (simp at h; done) | (simp at h; first | (exfalso; omega) | skip) | skip) | fail)
    change retOk _ _ _ _
    subst hp0 hp1 hp2 hp3 hp4 hp5 hp6 hp7
    refine ret_obj [0, 3, 4, 5, 6, 7, 8, 9, 10, 11] (some (strO B) :: some ⟨24, 1, false, .m (cellsI 2 B.length B.length)⟩ :: tailT (matL B.length unkE) B.length) rfl rfl ⟨rfl, congrArg (fun c => some (some (⟨24, 1, false, .m c⟩ : AObj))) (ren_cells hn).symm, ?_⟩ (r' := .agg [.ms 0 1 0 B.length, .ms 1 1 0 B.length]) rfl ⟨rfl, rfl⟩
    repeat' (first | exact trivial | exact rfl | refine kept_ob ?_ ?_)
theorem conv_strs {H : Heap} {d i n : Nat} {B : List Str} (h : H[i]? = some (some (strO B))) (hl : B.length = n) : convC H (d + 1) (.ms i 1 0 n) = some (encStrs B) := by
  simp only [convC, h, strO]
  simp [List.take_of_length_le, hl]; rfl
theorem ren_cells2 {d n m : Nat} (h : m ≤ 8) : (cellsI 2 n m).map (renL d [2, 4, 5, 6, 7, 8, 9, 10, 11, 12]) = cellsI 5 n m := by
  match m, h with
  | 0, _ => rfl
  | 1, _ => rfl
  | 2, _ => rfl
  | 3, _ => rfl
  | 4, _ => rfl
  | 5, _ => rfl
  | 6, _ => rfl
  | 7, _ => rfl
  | 8, _ => rfl
theorem ren_obO {d ty z : Nat} {rn : List Nat} {q : List (List PV)} : renOpt d rn (obP ty z q) = obP ty z q := by cases q <;> rfl
/-- The call that hands back such a table. -/
theorem call_unk {P : Program} {f : FuncId} {H : Heap} {K : AV → Heap → Prop} {B : List Str} (hH : H.length = 4) (h2 : H[2]? = some (some (strO B))) (hn : B.length ≤ 8)
    (hc : ACall P f [.ms 0 1 0 B.length] [some (strO B)] (fun r H' => r = .agg [.ms 0 1 0 B.length, .ms 1 1 0 B.length] ∧ H' = some (strO B) :: some ⟨24, 1, false, .m (cellsI 2 B.length B.length)⟩ :: tailT (matL B.length unkE) B.length))
    (hK : K (.agg [.ms 2 1 0 B.length, .ms 4 1 0 B.length]) (H.set 2 (some (strO B)) ++ some ⟨24, 1, false, .m (cellsI 5 B.length B.length)⟩ :: tailT (matL B.length unkE) B.length)) : vcFun P f [.ms 2 1 0 B.length] H K := by
  refine call_obj [2] [some (strO B)] [.ms 0 1 0 B.length] rfl ⟨h2, trivial⟩ rfl hc fun r Hc' hp => ?_
  obtain ⟨rfl, rfl⟩ := hp
  refine ⟨by simp, ?_⟩
  rw [hH]
  have e1 : (some (⟨24, 1, false, .m (cellsI 2 B.length B.length)⟩ : AObj) :: tailT (matL B.length unkE) B.length).map (renOpt 0 [2, 4, 5, 6, 7, 8, 9, 10, 11, 12]) = some ⟨24, 1, false, .m (cellsI 5 B.length B.length)⟩ :: tailT (matL B.length unkE) B.length := by
    unfold tailT
    simp only [List.map_cons, List.map_nil, ren_obO]
    refine congrArg (fun c => some (⟨24, 1, false, .m c⟩ : AObj) :: _) (ren_cells2 hn)
  show K _ (H.set 2 (some (strO B)) ++ (some (⟨24, 1, false, .m (cellsI 2 B.length B.length)⟩ : AObj) :: tailT (matL B.length unkE) B.length).map (renOpt 0 [2, 4, 5, 6, 7, 8, 9, 10, 11, 12]))
  rw [e1]
  exact hK
/-- A row is replaced by another one. -/
theorem RowsOk.row {n i : Nat} {D E : Nat → Nat → Int} {T : Heap} {l : List Int} (h : RowsOk n D T) (hi : i < n) (hl : l = rowL n E i) (e : ∀ a c, a < n → c < n → ¬ a = i → E a c = D a c) : RowsOk n E (T.set i (some (rowO l))) := fun u hu => by
  rw [List.getElem?_set]
  by_cases e1 : i = u
  · subst e1
    rw [if_pos rfl, if_pos (List.getElem?_eq_some_iff.1 (h i hi)).1, hl]
  · rw [if_neg e1, h u hu, rowL_congr (E := E) fun c hc => by rw [e u c hu hc fun q => e1 q.symm]]
theorem copy_row {n : Nat} {l : List Int} {m : List Int} (hl : l.length = n) (hm : m.length = n) : ((m.map fun n => [ei n]).take 0 ++ l.map (fun n => [ei n]) ++ (m.map fun n => [ei n]).drop (0 + (l.map fun n => [ei n]).length)) = l.map fun n => [ei n] := by
  rw [List.drop_of_length_le (by simp; omega)]
  simp
def rowsTo (W : List (List Int)) (i a c : Nat) : Int := if a < i then entB W a c else unkE a c
theorem ret_travel2 {H : Heap} {p q : PV} {i j n : Nat} (h1 : convC H 5 (.ms i 1 0 n) = some p) (h2 : okC H 5 (.ms i 1 0 n)) (h3 : convC H 5 (.ms j 1 0 n) = some q) (h4 : okC H 5 (.ms j 1 0 n)) :
    retOk 0 (.tup [.agg [.ms i 1 0 n, .ms j 1 0 n], vint .i64 0]) H (fun r H' => H' = [] ∧ r = .tup [.agg [.pv p, .pv q], vint .i64 0]) := by
  refine ret_pure (r0 := .tup [.agg [.pv p, .pv q], vint .i64 0]) ?_ ?_ rfl
  · simp only [conv, conv1, mapO, h1, h3]; rfl
  · repeat' (first | exact h2 | exact h4 | exact True.intro | refine And.intro ?_ ?_)
theorem ok_strs {H : Heap} {d i n : Nat} {B : List Str} (h : H[i]? = some (some (strO B))) (hl : B.length = n) : okC H (d + 1) (.ms i 1 0 n) := by
  simp only [okC, h, strO]
  simp [hl]
theorem c_rclose0 (t : Travel) (hv : travE t = 0) (hp : 0 < t.blds.length) : PCall Tryz.prog 149 [ag t.row] (fun a => a = .tup [ag (closeV t).row, vint .i64 0]) := by
  obtain ⟨hn, hW, hR, hD⟩ := trav_ok hv
  have h1 := c_rtravel t
  rw [hv] at h1
  have hu := c_unknown t.blds ⟨hp, hn⟩
  obtain ⟨B, W⟩ := t
  dsimp only at hn hW hR hD hp hu
  refine acall_of tok mixed 143 rfl (fn := Tryz.f149) (c := Tryz.f149.body.getD .skip) (by kernel_rfl) (by kernel_rfl) (by kernel_rfl) rfl 0 rfl ?_
  repeat' (first | ((change vcFun _ _ _ _ _; refine call_unk rfl rfl hn hu ?_)) | ((refine eqv_to (Rows.p (B.map fun s => [es s])) rfl (eqv_to B.length (by simp [rowsLen]) ?_))) | refine o1 ?_ | refine o2 ?_ | refine k1 ?_ | refine k2 ?_ | refine k3 ?_ | refine k6 ?_ | refine And.intro ?_ ?_ | (intro h; first | exact Bool.noConfusion h | exact nz _ h | exact nl h | (simp at h; done) | (simp at h; first | (exfalso; omega) | skip) | skip) | (refine (?_ : srcLen _ = rowsLen _); rfl) | exact (by kernel_rfl : drawOk _ _ = true) | refine eqv_len_map ?_ | (refine (?_ : _ ≤ 140737488355328); simp [rowsLen] <;> omega) | (refine (?_ : _ ≤ 9223372036854775807); simp [rowsLen] <;> omega) | (change vcFun _ _ _ _ _; refine call_eq rfl (by repeat' (first | trivial | refine And.intro ?_ ?_ | (show 0 + _ ≤ List.length _; simp))) ALeL.refl (h1) rfl ?_) | fail)
  all_goals first
    | (exfalso; simp only [rowsLen, List.length_map] at h; omega)
    | skip
  have hT := tail_ok (W := matL B.length unkE) hn matL_len (fun l hl => by
    obtain ⟨u, -, rfl⟩ := List.mem_map.1 (show l ∈ (List.range B.length).map _ from hl)
    exact rowL_len)
  rw [show tailT (matL B.length unkE) B.length = [obP 3 1 (qT (matL B.length unkE) 0 B.length), obP 3 1 (qT (matL B.length unkE) 1 B.length), obP 3 1 (qT (matL B.length unkE) 2 B.length), obP 3 1 (qT (matL B.length unkE) 3 B.length), obP 3 1 (qT (matL B.length unkE) 4 B.length), obP 3 1 (qT (matL B.length unkE) 5 B.length), obP 3 1 (qT (matL B.length unkE) 6 B.length), obP 3 1 (qT (matL B.length unkE) 7 B.length)] from rfl] at hT ⊢
  generalize qT (matL B.length unkE) 0 B.length = p0 at hT ⊢
  generalize qT (matL B.length unkE) 1 B.length = p1 at hT ⊢
  generalize qT (matL B.length unkE) 2 B.length = p2 at hT ⊢
  generalize qT (matL B.length unkE) 3 B.length = p3 at hT ⊢
  generalize qT (matL B.length unkE) 4 B.length = p4 at hT ⊢
  generalize qT (matL B.length unkE) 5 B.length = p5 at hT ⊢
  generalize qT (matL B.length unkE) 6 B.length = p6 at hT ⊢
  generalize qT (matL B.length unkE) 7 B.length = p7 at hT ⊢
  repeat' (first | (refine fh_ob ?_) | refine o1 ?_ | refine o2 ?_ | refine k1 ?_ | refine k2 ?_ | refine k4 ?_ | refine And.intro ?_ ?_ | exact (by kernel_rfl : drawOk _ _ = true) | fail)
  refine loop_for (fun x : Nat × Heap => [(1, .ptr 0 2 0 0), (2, .ptr 1 2 0 0), (5, vint .i64 B.length), (6, .ptr 3 2 0 0), (7, vint .i64 x.1)]) (fun x => some ⟨31, 2, false, .box [.pv (encStrs B), .pv (.sl 1 (W.map intsRow))]⟩ :: some ⟨31, 2, false, .box [.pv (.val (.slice none 0 0)), .pv (.val (.slice none 0 0))]⟩ :: some (strO B) :: some ⟨31, 2, false, .box [.ms 2 1 0 B.length, .ms 4 1 0 B.length]⟩ :: some ⟨24, 1, false, .m (cellsI 5 B.length B.length)⟩ :: x.2) (fun x => x.1 ≤ B.length ∧ RowsOk B.length (rowsTo W x.1) x.2) (fun x => B.length - x.1) (0, [obP 3 1 p0, obP 3 1 p1, obP 3 1 p2, obP 3 1 p3, obP 3 1 p4, obP 3 1 p5, obP 3 1 p6, obP 3 1 p7]) ⟨Nat.zero_le _, hT.congr fun a c ha hc => ?_⟩ ?_ ?_
  · show entB (matL B.length unkE) a c = if a < 0 then _ else _
    rw [if_neg (by omega)]
    unfold entB
    rw [matL_at ha]; dsimp only; rw [rowL_at hc]
  · exact back_same (by repeat (first | exact keep_nil | refine keep_cons rfl ?_))
  clear hT
  rintro ⟨i, T0⟩ ⟨hi, hT⟩
  dsimp only at hi hT ⊢
  rcases Nat.lt_or_ge i B.length with hil | hig
  · obtain ⟨l, hl⟩ := getE (show i < W.length by omega)
    have hll := hR l (List.mem_of_getElem? hl)
    have hTi := hT i hil
    have hrow : RowsOk B.length (rowsTo W (i + 1)) (T0.set i (some (rowO l))) := hT.row (E := rowsTo W (i + 1)) hil (by
      have e : (matL B.length (entB W))[i]? = some l := by rw [matL_ent hW hR]; exact hl
      rw [matL_at hil] at e
      injection e with e
      rw [← e]
      refine rowL_congr fun c hc => ?_
      show _ = if i < i + 1 then _ else _
      rw [if_pos (by omega)]) fun a c _ _ ha => by
        unfold rowsTo
        (repeat' split) <;> first | rfl | omega
    repeat' (first | ((change forceH _ _; refine forceH_in ?_)) | (refine ⟨_, cellsI_at (by assumption), ?_⟩) | (simp only [List.getElem?_cons_succ, hTi, rowO]) | (((conv => whnf); simp only [List.getElem?_cons_succ, hTi, rowO])) | ((refine (?_ : (_ : Nat) ≤ _); simp only [List.length_map, rowL_len]; omega)) | (refine eqv_to _ (copy_row hll rowL_len) ?_) | refine o1 ?_ | refine o2 ?_ | refine k1 ?_ | refine k2 ?_ | refine k3 ?_ | refine k4 ?_ | refine k6 ?_ | refine And.intro ?_ ?_ | refine o3 ?_ | refine o4 ?_ | (intro h; first | exact Bool.noConfusion h | exact nz _ h | exact nl h | (simp at h; done) | (simp at h; first | (exfalso; omega) | skip) | skip) | exact (by kernel_rfl : drawOk _ _ = true) | refine eqv_zero ?_ | refine eqv_wrap (by omega) (by omega) ?_ | refine ⟨_, _, (by first | rfl | assumption), at_map (by assumption), ?_⟩ | refine idx_ms _ (by first | rfl | assumption) (by first | assumption | omega) ?_ | fail)
    exact ⟨(i + 1, T0.set i _), ⟨by dsimp only; omega, hrow⟩, by dsimp only; omega, back_same (by repeat (first | exact keep_nil | refine keep_cons rfl ?_))⟩
  · obtain rfl : i = B.length := by omega
    have hT := hT.congr (E := dist W 0) fun a c ha _ => if_pos ha
    repeat' (first | ((change forceH _ _; refine forceH_in ?_)) | refine o1 ?_ | refine o2 ?_ | refine k1 ?_ | refine k2 ?_ | refine k3 ?_ | refine k4 ?_ | refine k8 ?_ | refine And.intro ?_ ?_ | (intro h; first | exact Bool.noConfusion h | exact nz _ h | exact nl h | (simp at h; done) | (simp at h; first | (exfalso; omega) | skip) | skip) | fail)
    refine loop_in (fun x : Nat × Heap => [(8, vint .i64 x.1)]) (fun x => some ⟨31, 2, false, .box [.pv (encStrs B), .pv (.sl 1 (W.map intsRow))]⟩ :: some ⟨31, 2, false, .box [.pv (.val (.slice none 0 0)), .pv (.val (.slice none 0 0))]⟩ :: some (strO B) :: some ⟨31, 2, false, .box [.ms 2 1 0 B.length, .ms 4 1 0 B.length]⟩ :: some ⟨24, 1, false, .m (cellsI 5 B.length B.length)⟩ :: x.2) (fun x => x.1 ≤ B.length ∧ RowsOk B.length (dist W x.1) x.2) (fun x => B.length - x.1) (0, T0) ⟨Nat.zero_le _, hT⟩ ⟨?_, ?_⟩
    · exact back_same (by repeat (first | exact keep_nil | refine keep_cons rfl ?_))
    clear hT
    rintro ⟨o, T0⟩ ⟨ho, hT⟩
    dsimp only at ho hT ⊢
    rcases Nat.lt_or_ge o B.length with hol | hog
    · have hDo := dist_le hD hn ho
      repeat' (first | ((change forceH _ _; refine forceH_in ?_)) | refine o1 ?_ | refine o2 ?_ | refine k1 ?_ | refine k2 ?_ | refine k3 ?_ | refine k4 ?_ | refine k6 ?_ | refine And.intro ?_ ?_ | (intro h; first | exact Bool.noConfusion h | exact nz _ h | exact nl h | (simp at h; done) | (simp at h; first | (exfalso; omega) | skip) | skip) | fail)
      refine loop_in (fun x : Nat × Heap => [(9, vint .i64 x.1)]) (fun x => some ⟨31, 2, false, .box [.pv (encStrs B), .pv (.sl 1 (W.map intsRow))]⟩ :: some ⟨31, 2, false, .box [.pv (.val (.slice none 0 0)), .pv (.val (.slice none 0 0))]⟩ :: some (strO B) :: some ⟨31, 2, false, .box [.ms 2 1 0 B.length, .ms 4 1 0 B.length]⟩ :: some ⟨24, 1, false, .m (cellsI 5 B.length B.length)⟩ :: x.2) (fun x => x.1 ≤ B.length ∧ RowsOk B.length (mixD (dist W o) o x.1 0) x.2) (fun x => B.length - x.1) (0, T0) ⟨Nat.zero_le _, hT.congr fun a c _ _ => mix_zero.symm⟩ ⟨?_, ?_⟩
      · exact back_same (by repeat (first | exact keep_nil | refine keep_cons rfl ?_))
      clear hT
      rintro ⟨i, T0⟩ ⟨hi, hT⟩
      dsimp only at hi hT ⊢
      rcases Nat.lt_or_ge i B.length with hil | hig
      · repeat' (first | ((change forceH _ _; refine forceH_in ?_)) | refine o1 ?_ | refine o2 ?_ | refine k1 ?_ | refine k2 ?_ | refine k3 ?_ | refine k4 ?_ | refine k6 ?_ | refine And.intro ?_ ?_ | (intro h; first | exact Bool.noConfusion h | exact nz _ h | exact nl h | (simp at h; done) | (simp at h; first | (exfalso; omega) | skip) | skip) | fail)
        refine loop_in (fun x : Nat × Heap => [(10, vint .i64 x.1)]) (fun x => some ⟨31, 2, false, .box [.pv (encStrs B), .pv (.sl 1 (W.map intsRow))]⟩ :: some ⟨31, 2, false, .box [.pv (.val (.slice none 0 0)), .pv (.val (.slice none 0 0))]⟩ :: some (strO B) :: some ⟨31, 2, false, .box [.ms 2 1 0 B.length, .ms 4 1 0 B.length]⟩ :: some ⟨24, 1, false, .m (cellsI 5 B.length B.length)⟩ :: x.2) (fun x => x.1 ≤ B.length ∧ RowsOk B.length (mixD (dist W o) o i x.1) x.2) (fun x => B.length - x.1) (0, T0) ⟨Nat.zero_le _, hT⟩ ⟨?_, ?_⟩
        · exact back_same (by repeat (first | exact keep_nil | refine keep_cons rfl ?_))
        clear hT
        rintro ⟨k, T0⟩ ⟨hk, hT⟩
        dsimp only at hk hT ⊢
        rcases Nat.lt_or_ge k B.length with hkl | hkg
        · have hTi := hT i hil
          have hTo := hT o hol
          have ei1 := rowL_at (D := mixD (dist W o) o i k) (i := i) hol
          have ei2 := rowL_at (D := mixD (dist W o) o i k) (i := o) hkl
          have ei3 := rowL_at (D := mixD (dist W o) o i k) (i := i) hkl
          rw [mix_col hDo hol hil] at ei1
          rw [mix_row hDo hol hkl] at ei2
          rw [mix_at] at ei3
          have b1 := hDo.lo i o hil hol
          have b2 := hDo.hi i o hil hol
          have b3 := hDo.lo o k hol hkl
          have b4 := hDo.hi o k hol hkl
          have b5 := hDo.lo i k hil hkl
          have b6 := hDo.hi i k hil hkl
          have hstep : stepE (dist W o) o i k = if dist W o i o = -1 ∨ dist W o o k = -1 then dist W o i k else if dist W o i k = -1 ∨ dist W o i o + dist W o o k < dist W o i k then dist W o i o + dist W o o k else dist W o i k := rfl
          have hno : stepE (dist W o) o i k = dist W o i k → RowsOk B.length (mixD (dist W o) o i (k + 1)) T0 := fun e => hT.congr fun a c _ _ => by
            rw [mix_next]
            split
            · rename_i e2; obtain ⟨rfl, rfl⟩ := e2; rw [mix_at, e]
            · rfl
          have hyes : stepE (dist W o) o i k = dist W o i o + dist W o o k → RowsOk B.length (mixD (dist W o) o i (k + 1)) (T0.set i (some (rowO ((rowL B.length (mixD (dist W o) o i k) i).set k (dist W o i o + dist W o o k))))) := fun e => hT.set hil hkl fun a c _ _ => by rw [mix_next, e]
          repeat' (first | ((change forceH _ _; refine forceH_in ?_)) | (refine ⟨_, cellsI_at (by assumption), ?_⟩) | (simp only [List.getElem?_cons_succ, hTi, rowO]) | (simp only [List.getElem?_cons_succ, hTo, rowO]) | (((conv => whnf); simp only [List.getElem?_cons_succ, hTi, rowO])) | refine o1 ?_ | refine o2 ?_ | refine k1 ?_ | refine k2 ?_ | refine k3 ?_ | refine k4 ?_ | refine k6 ?_ | refine And.intro ?_ ?_ | refine o3 ?_ | refine o4 ?_ | (intro h; first | exact Bool.noConfusion h | exact nz _ h | exact nl h | (simp at h; done) | (simp at h; first | (exfalso; omega) | skip) | skip) | exact Nat.le_of_ble_eq_true rfl | exact (by kernel_rfl : drawOk _ _ = true) | refine eqv_zero ?_ | refine eqv_wrap (by omega) (by omega) ?_ | refine eqv_to _ (set_map rfl rfl) ?_ | refine ⟨_, at_map (by assumption), ?_⟩ | refine idx_ms _ (by first | rfl | assumption) (by first | assumption | omega) ?_ | fail)
          all_goals first
            | exact ⟨(k + 1, T0), ⟨by dsimp only; omega, hno (by rw [hstep]; (repeat' split) <;> omega)⟩, by dsimp only; omega, back_same (by repeat (first | exact keep_nil | refine keep_cons rfl ?_))⟩
            | exact ⟨(k + 1, T0.set i _), ⟨by dsimp only; omega, hyes (by rw [hstep]; (repeat' split) <;> omega)⟩, by dsimp only; omega, back_same (by repeat (first | exact keep_nil | refine keep_cons rfl ?_))⟩
        · obtain rfl : k = B.length := by omega
          repeat' (first | ((change forceH _ _; refine forceH_in ?_)) | refine o1 ?_ | refine o2 ?_ | refine k1 ?_ | refine k2 ?_ | refine k3 ?_ | refine k8 ?_ | refine And.intro ?_ ?_ | (intro h; first | exact Bool.noConfusion h | exact nz _ h | exact nl h | (simp at h; done) | (simp at h; first | (exfalso; omega) | skip) | skip) | refine eqv_wrap (by omega) (by omega) ?_ | fail)
          exact ⟨(i + 1, T0), ⟨by dsimp only; omega, hT.congr fun a c _ hc => mix_turn hc⟩, by dsimp only; omega, back_same (by repeat (first | exact keep_nil | refine keep_cons rfl ?_))⟩
      · obtain rfl : i = B.length := by omega
        repeat' (first | ((change forceH _ _; refine forceH_in ?_)) | refine o1 ?_ | refine o2 ?_ | refine k1 ?_ | refine k2 ?_ | refine k3 ?_ | refine k8 ?_ | refine And.intro ?_ ?_ | (intro h; first | exact Bool.noConfusion h | exact nz _ h | exact nl h | (simp at h; done) | (simp at h; first | (exfalso; omega) | skip) | skip) | refine eqv_wrap (by omega) (by omega) ?_ | fail)
        exact ⟨(o + 1, T0), ⟨by dsimp only; omega, hT.congr fun a c ha _ => mix_all ha⟩, by dsimp only; omega, back_same (by repeat (first | exact keep_nil | refine keep_cons rfl ?_))⟩
    · obtain rfl : o = B.length := by omega
      repeat' (first | ((change forceH _ _; refine forceH_in ?_)) | refine o1 ?_ | refine o2 ?_ | refine k1 ?_ | refine k2 ?_ | refine k3 ?_ | refine k4 ?_ | refine k8 ?_ | refine And.intro ?_ ?_ | (intro h; first | exact Bool.noConfusion h | exact nz _ h | exact nl h | (simp at h; done) | (simp at h; first | (exfalso; omega) | skip) | skip) | fail)
      refine loop_in (fun x : Nat × Heap => [(13, vint .i64 x.1)]) (fun x => some ⟨31, 2, false, .box [.pv (encStrs B), .pv (.sl 1 (W.map intsRow))]⟩ :: some ⟨31, 2, false, .box [.pv (.val (.slice none 0 0)), .pv (.val (.slice none 0 0))]⟩ :: some (strO B) :: some ⟨31, 2, false, .box [.ms 2 1 0 B.length, .ms 4 1 0 B.length]⟩ :: some ⟨24, 1, false, .m (cellsI 5 B.length B.length)⟩ :: x.2) (fun x => x.1 ≤ B.length ∧ RowsOk B.length (mixG (dist W B.length) (fun a c => min (dist W B.length a c) 24) x.1 0) x.2) (fun x => B.length - x.1) (0, T0) ⟨Nat.zero_le _, hT.congr fun a c _ _ => (if_neg (by omega)).symm⟩ ⟨?_, ?_⟩
      · exact back_same (by repeat (first | exact keep_nil | refine keep_cons rfl ?_))
      clear hT
      rintro ⟨i, T0⟩ ⟨hi, hT⟩
      dsimp only at hi hT ⊢
      rcases Nat.lt_or_ge i B.length with hil | hig
      · repeat' (first | ((change forceH _ _; refine forceH_in ?_)) | refine o1 ?_ | refine o2 ?_ | refine k1 ?_ | refine k2 ?_ | refine k3 ?_ | refine k4 ?_ | refine k6 ?_ | refine And.intro ?_ ?_ | (intro h; first | exact Bool.noConfusion h | exact nz _ h | exact nl h | (simp at h; done) | (simp at h; first | (exfalso; omega) | skip) | skip) | fail)
        refine loop_in (fun x : Nat × Heap => [(14, vint .i64 x.1)]) (fun x => some ⟨31, 2, false, .box [.pv (encStrs B), .pv (.sl 1 (W.map intsRow))]⟩ :: some ⟨31, 2, false, .box [.pv (.val (.slice none 0 0)), .pv (.val (.slice none 0 0))]⟩ :: some (strO B) :: some ⟨31, 2, false, .box [.ms 2 1 0 B.length, .ms 4 1 0 B.length]⟩ :: some ⟨24, 1, false, .m (cellsI 5 B.length B.length)⟩ :: x.2) (fun x => x.1 ≤ B.length ∧ RowsOk B.length (mixG (dist W B.length) (fun a c => min (dist W B.length a c) 24) i x.1) x.2) (fun x => B.length - x.1) (0, T0) ⟨Nat.zero_le _, hT⟩ ⟨?_, ?_⟩
        · exact back_same (by repeat (first | exact keep_nil | refine keep_cons rfl ?_))
        clear hT
        rintro ⟨k, T0⟩ ⟨hk, hT⟩
        dsimp only at hk hT ⊢
        rcases Nat.lt_or_ge k B.length with hkl | hkg
        · have hTi := hT i hil
          have ei3 := rowL_at (D := mixG (dist W B.length) (fun a c => min (dist W B.length a c) 24) i k) (i := i) hkl
          rw [mixG_at] at ei3
          have hmin : (bif false then if 24 > dist W B.length i k then 24 else dist W B.length i k else if 24 < dist W B.length i k then 24 else dist W B.length i k) = min (dist W B.length i k) 24 := by
            show (if 24 < dist W B.length i k then (24 : Int) else dist W B.length i k) = _
            split <;> omega
          have hyes : RowsOk B.length (mixG (dist W B.length) (fun a c => min (dist W B.length a c) 24) i (k + 1)) (T0.set i (some (rowO ((rowL B.length (mixG (dist W B.length) (fun a c => min (dist W B.length a c) 24) i k) i).set k (bif false then if 24 > dist W B.length i k then 24 else dist W B.length i k else if 24 < dist W B.length i k then 24 else dist W B.length i k))))) := by
            rw [hmin]
            exact hT.set hil hkl fun a c _ _ => by rw [mixG_next]
          repeat' (first | ((change forceH _ _; refine forceH_in ?_)) | (refine ⟨_, cellsI_at (by assumption), ?_⟩) | (simp only [List.getElem?_cons_succ, hTi, rowO]) | (((conv => whnf); simp only [List.getElem?_cons_succ, hTi, rowO])) | refine o1 ?_ | refine o2 ?_ | refine k1 ?_ | refine k2 ?_ | refine k3 ?_ | refine k4 ?_ | refine k6 ?_ | refine And.intro ?_ ?_ | refine o3 ?_ | refine o4 ?_ | (intro h; first | exact Bool.noConfusion h | exact nz _ h | exact nl h | (simp at h; done) | (simp at h; first | (exfalso; omega) | skip) | skip) | exact Nat.le_of_ble_eq_true rfl | exact (by kernel_rfl : drawOk _ _ = true) | refine eqv_zero ?_ | refine eqv_wrap (by omega) (by omega) ?_ | refine eqv_to _ (set_map rfl rfl) ?_ | refine ⟨_, at_map (by assumption), ?_⟩ | refine idx_ms _ (by first | rfl | assumption) (by first | assumption | omega) ?_ | fail)
          exact ⟨(k + 1, T0.set i _), ⟨by dsimp only; omega, hyes⟩, by dsimp only; omega, back_same (by repeat (first | exact keep_nil | refine keep_cons rfl ?_))⟩
        · obtain rfl : k = B.length := by omega
          repeat' (first | ((change forceH _ _; refine forceH_in ?_)) | refine o1 ?_ | refine o2 ?_ | refine k1 ?_ | refine k2 ?_ | refine k3 ?_ | refine k8 ?_ | refine And.intro ?_ ?_ | (intro h; first | exact Bool.noConfusion h | exact nz _ h | exact nl h | (simp at h; done) | (simp at h; first | (exfalso; omega) | skip) | skip) | refine eqv_wrap (by omega) (by omega) ?_ | fail)
          exact ⟨(i + 1, T0), ⟨by dsimp only; omega, hT.congr fun a c _ hc => mixG_turn hc⟩, by dsimp only; omega, back_same (by repeat (first | exact keep_nil | refine keep_cons rfl ?_))⟩
      · obtain rfl : i = B.length := by omega
        have hE := hT.congr (E := fun a c => min (dist W B.length a c) 24) fun a c ha _ => mixG_all ha
        repeat' (first | ((change forceH _ _; refine forceH_in ?_)) | refine o1 ?_ | refine o2 ?_ | refine k1 ?_ | refine k2 ?_ | refine k3 ?_ | refine k7 ?_ | refine k8 ?_ | refine And.intro ?_ ?_ | (intro h; first | exact Bool.noConfusion h | exact nz _ h | exact nl h | (simp at h; done) | (simp at h; first | (exfalso; omega) | skip) | skip) | fail)
        change retOk _ _ _ _
        exact ret_travel2 (conv_strs rfl rfl) (ok_strs rfl rfl) (conv_mat rfl hE fun j => rfl) (ok_mat rfl hE fun j => rfl)
end Go.Proofs.YtmaambipopgdkaaGreat.Cw

/-
  The reference's table of the shortest ways: the empty table.
-/
namespace Go.Proofs.YtmaambipopgdkaaGreat.Cw
open Go Go.Cw Go.Proofs
set_option linter.unusedVariables false
set_option maxRecDepth 100000
set_option maxHeartbeats 8000000
theorem c_unknown0 : PCall Tryz.prog 231 [.pv (.val (.slice none 0 0))] (fun r => r = .agg [.pv (.val (.slice none 0 0)), .pv (.val (.slice none 0 0))]) := by
  refine acall_of tok mixed 37 rfl (fn := Tryz.f231) (c := Tryz.f231.body.getD .skip) (by kernel_rfl) (by kernel_rfl) (by kernel_rfl) rfl 0 rfl ?_
  repeat' (first | refine o1 ?_ | refine o2 ?_ | refine k1 ?_ | refine k2 ?_ | refine k4 ?_ | refine And.intro ?_ ?_ | exact (by kernel_rfl : drawOk _ _ = true) | fail)
  refine loop_in (fun _ : Unit => [(4, vint .i64 0)]) (fun _ => [some ⟨31, 2, false, .box [.pv (.val (.slice none 0 0)), .pv (.val (.slice none 0 0))]⟩, some ⟨31, 2, false, .box [.pv (.val (.slice none 0 0)), .pv (.val (.slice none 0 0))]⟩]) (fun _ => True) (fun _ => 0) () True.intro ⟨back [0, 1] rfl rfl ⟨rfl, rfl, trivial⟩ (by repeat' (first | exact trivial | exact rfl | refine And.intro ?_ ?_)), fun _ _ => ?_⟩
  repeat' (first | refine o1 ?_ | refine o2 ?_ | refine k1 ?_ | refine k2 ?_ | refine k3 ?_ | refine k7 ?_ | refine k8 ?_ | refine And.intro ?_ ?_ | (intro h; first | exact Bool.noConfusion h | exact nz _ h | exact nl h | (simp at h; done) | (simp at h; first | (exfalso; omega) | skip) | skip) | (change retOk _ _ _ _; refine ret_pure rfl trivial ?_) | fail)
  rfl
theorem c_rcloseE (t : Travel) (hv : travE t = 0) (hp : t.blds.length = 0) : PCall Tryz.prog 149 [ag t.row] (fun a => Leq a (.tup [ag (closeV t).row, vint .i64 0])) := by
  obtain ⟨hn, hW, hR, hD⟩ := trav_ok hv
  have h1 := c_rtravel t
  rw [hv] at h1
  have hu := c_unknown0
  obtain ⟨B, W⟩ := t
  dsimp only at hn hW hR hD hp
  obtain rfl := List.eq_nil_of_length_eq_zero hp
  obtain rfl := List.eq_nil_of_length_eq_zero hW
  refine acall_of tok mixed 143 rfl (fn := Tryz.f149) (c := Tryz.f149.body.getD .skip) (by kernel_rfl) (by kernel_rfl) (by kernel_rfl) rfl 0 rfl ?_
  repeat' (first | ((change vcFun _ _ _ _ _; refine call_frz rfl (by repeat' (first | trivial | refine And.intro ?_ ?_ | (show 0 + _ ≤ List.length _; simp))) ALeL.refl hu ?_; rintro _ rfl)) | refine o1 ?_ | refine o2 ?_ | refine k1 ?_ | refine k2 ?_ | refine k3 ?_ | refine k4 ?_ | refine k6 ?_ | refine And.intro ?_ ?_ | (intro h; first | exact Bool.noConfusion h | exact nz _ h | exact nl h | (simp at h; done) | (simp at h; first | (exfalso; omega) | skip) | skip) | (refine (?_ : srcLen _ = rowsLen _); rfl) | exact Nat.le_of_ble_eq_true rfl | exact (by kernel_rfl : drawOk _ _ = true) | refine eqv_len_map ?_ | (change vcFun _ _ _ _ _; refine call_eq rfl (by repeat' (first | trivial | refine And.intro ?_ ?_ | (show 0 + _ ≤ List.length _; simp))) ALeL.refl (h1) rfl ?_) | fail)
  refine loop_in (fun _ : Unit => [(7, vint .i64 0)]) (fun _ => [some ⟨31, 2, false, .box [.pv (encStrs []), .pv (.sl 1 (List.map intsRow []))]⟩, some ⟨31, 2, false, .box [.pv (.val (.slice none 0 0)), .pv (.val (.slice none 0 0))]⟩, none, some ⟨31, 2, false, .box [.pv (.val (.slice none 0 0)), .pv (.val (.slice none 0 0))]⟩]) (fun _ => True) (fun _ => 0) () True.intro ⟨back_same (by repeat (first | exact keep_nil | refine keep_cons rfl ?_)), fun _ _ => ?_⟩
  repeat' (first | refine o1 ?_ | refine o2 ?_ | refine k1 ?_ | refine k2 ?_ | refine k3 ?_ | refine k4 ?_ | refine k8 ?_ | refine And.intro ?_ ?_ | (intro h; first | exact Bool.noConfusion h | exact nz _ h | exact nl h | (simp at h; done) | (simp at h; first | (exfalso; omega) | skip) | skip) | fail)
  refine loop_in (fun _ : Unit => [(8, vint .i64 0)]) (fun _ => [some ⟨31, 2, false, .box [.pv (encStrs []), .pv (.sl 1 (List.map intsRow []))]⟩, some ⟨31, 2, false, .box [.pv (.val (.slice none 0 0)), .pv (.val (.slice none 0 0))]⟩, none, some ⟨31, 2, false, .box [.pv (.val (.slice none 0 0)), .pv (.val (.slice none 0 0))]⟩]) (fun _ => True) (fun _ => 0) () True.intro ⟨back_same (by repeat (first | exact keep_nil | refine keep_cons rfl ?_)), fun _ _ => ?_⟩
  repeat' (first | refine o1 ?_ | refine o2 ?_ | refine k1 ?_ | refine k2 ?_ | refine k3 ?_ | refine k4 ?_ | refine k8 ?_ | refine And.intro ?_ ?_ | (intro h; first | exact Bool.noConfusion h | exact nz _ h | exact nl h | (simp at h; done) | (simp at h; first | (exfalso; omega) | skip) | skip) | fail)
  refine loop_in (fun _ : Unit => [(13, vint .i64 0)]) (fun _ => [some ⟨31, 2, false, .box [.pv (encStrs []), .pv (.sl 1 (List.map intsRow []))]⟩, some ⟨31, 2, false, .box [.pv (.val (.slice none 0 0)), .pv (.val (.slice none 0 0))]⟩, none, some ⟨31, 2, false, .box [.pv (.val (.slice none 0 0)), .pv (.val (.slice none 0 0))]⟩]) (fun _ => True) (fun _ => 0) () True.intro ⟨back_same (by repeat (first | exact keep_nil | refine keep_cons rfl ?_)), fun _ _ => ?_⟩
  repeat' (first | refine o1 ?_ | refine o2 ?_ | refine k1 ?_ | refine k2 ?_ | refine k3 ?_ | refine k7 ?_ | refine k8 ?_ | refine And.intro ?_ ?_ | (intro h; first | exact Bool.noConfusion h | exact nz _ h | exact nl h | (simp at h; done) | (simp at h; first | (exfalso; omega) | skip) | skip) | fail)
  all_goals
    change retOk _ _ _ _; refine ret_pure rfl (by repeat' (first | exact True.intro | refine And.intro ?_ ?_)) ?_
    exact ⟨ALe.tup ⟨ALe.agg ⟨ALe.pv PLe.nil, ALe.pv PLe.nil, trivial⟩, ALe.refl, trivial⟩⟩
end Go.Proofs.YtmaambipopgdkaaGreat.Cw

/-
  Lists of the reference: the classes of both selections, and the closed table.
-/
namespace Go.Proofs.YtmaambipopgdkaaGreat.Cw
open Go Go.Cw Go.Proofs
set_option linter.unusedVariables false
set_option maxRecDepth 100000
set_option maxHeartbeats 8000000
noncomputable def listS (r : Reg) (u : Rule) : List Int := if u.kind = 6 then clsL r u.second else []
theorem reg_cls {r : Reg} (h : regE r = 0) : r.classes.length ≤ 24 := by
  have z := orI_z (regE_z h).1
  have g6 : classesE r.classes r.grid r.term.weeks = 0 := z _ (by simp [partsE])
  unfold classesE at g6
  (repeat' split at g6) <;> omega
theorem reg_trav {r : Reg} (h : regE r = 0) : travE r.travel = 0 := orI_z (regE_z h).1 _ (by simp [partsE])
theorem way_close {t : Travel} (h : travE t = 0) : WayL (closeV t) := by
  obtain ⟨h1, h2, h3, -⟩ := trav_ok h
  refine ⟨?_, ?_, fun x hx => ?_⟩
  · show t.blds.length ≤ _; omega
  · show (matL _ _).length ≤ _; rw [matL_len]; omega
  · obtain ⟨i, -, rfl⟩ := List.mem_map.1 (show x ∈ (List.range t.blds.length).map _ from hx)
    rw [rowL_len]; omega
theorem c_rclose (t : Travel) (hv : travE t = 0) : PCall Tryz.prog 149 [ag t.row] (fun a => a = .tup [ag (closeV t).row, vint .i64 0]) := by
  rcases Nat.eq_zero_or_pos t.blds.length with h | h
  · exact (c_rcloseE t hv h).weak fun r h => ⟨_, h.le, rfl⟩
  · exact c_rclose0 t hv h
theorem lst_len {r : Reg} {s : Sel} (h : regE r = 0) (hs : selE r s = 0) : (clsL r s).length ≤ r.classes.length := (cls_ok h hs).len
theorem c_lists0 (r : Reg) (u : Rule) (hu : RuleL u) (h : regE r = 0) (hs1 : selE r u.first = 0) (hs2 : u.kind = 6 → selE r u.second = 0) :
    PCall Tryz.prog 56 [ag r.cells, ag u.row] (fun a => Leq a (.tup [.pv (encInts (clsL r u.first)), .pv (encInts (listS r u)), ag (closeV r.travel).row])) := by
  have h1 := c_rselC r u.first hu.first fun h => ⟨(regO h).s, (regO h).feats⟩
  have h2 := c_rselC r u.second hu.second fun h => ⟨(regO h).s, (regO h).feats⟩
  have h3 := c_rclose r.travel (reg_trav h)
  rw [row_cells] at h1 h2
  unfold listS
  generalize clsE0 r u.first = E1 at *
  generalize clsE0 r u.second = E2 at *
  generalize clsL r u.first = L1 at *
  generalize clsL r u.second = L2 at *
  generalize closeV r.travel = C at *
  refine acall_of tok mixed 38 rfl (fn := Tryz.f56) (c := Tryz.f56.body.getD .skip) (by kernel_rfl) (by kernel_rfl) (by kernel_rfl) rfl 0 rfl ?_
  repeat' (first | ((change vcFun _ _ _ _ _; refine call_frz rfl (by repeat' (first | trivial | refine And.intro ?_ ?_ | (show 0 + _ ≤ List.length _; simp))) ALeL.refl h1 ?_; rintro _ rfl)) | ((change vcFun _ _ _ _ _; refine call_frz rfl (by repeat' (first | trivial | refine And.intro ?_ ?_ | (show 0 + _ ≤ List.length _; simp))) ALeL.refl h2 ?_; rintro _ rfl)) | ((change vcFun _ _ _ _ _; refine call_frz rfl (by repeat' (first | trivial | refine And.intro ?_ ?_ | (show 0 + _ ≤ List.length _; simp))) ALeL.refl h3 ?_; rintro _ rfl)) | refine o1 ?_ | refine o2 ?_ | refine k1 ?_ | refine k2 ?_ | refine k3 ?_ | refine k6 ?_ | refine k7 ?_ | refine And.intro ?_ ?_ | refine o3 ?_ | refine o4 ?_ | (intro h; first | exact Bool.noConfusion h | exact nz _ h | exact nl h | (simp at h; done) | (simp at h; first | (exfalso; omega) | skip) | skip) | exact (by kernel_rfl : drawOk _ _ = true) | fail)
  all_goals
    change retOk _ _ _ _; refine ret_pure rfl (by repeat' (first | exact True.intro | refine And.intro ?_ ?_)) ?_
    refine ⟨?_⟩
    first
      | (rw [if_pos (by assumption)]; exact ALe.refl)
      | (rw [if_neg (by assumption)]; exact ALe.tup ⟨ALe.refl, ALe.pv PLe.nil, ALe.refl, trivial⟩)
theorem c_lists (r : Reg) (u : Rule) (hu : RuleL u) (h : regE r = 0) (hs1 : selE r u.first = 0) (hs2 : u.kind = 6 → selE r u.second = 0) :
    PCall Tryz.prog 56 [ag r.cells, ag u.row] (fun a => a = .tup [.pv (encInts (clsL r u.first)), .pv (encInts (listS r u)), ag (closeV r.travel).row]) :=
  (c_lists0 r u hu h hs1 hs2).weak fun r h => ⟨_, h.le, rfl⟩
theorem list_ok {r : Reg} {u : Rule} (h : regE r = 0) (hs1 : selE r u.first = 0) (hs2 : u.kind = 6 → selE r u.second = 0) : ListOk r u (clsL r u.first) (listS r u) (memB r u.first) (newS r u) := by
  refine ⟨cls_ok h hs1, ?_, fun h6 => ?_⟩
  · unfold listS
    split
    · rename_i h6
      have := lst_len h (hs2 h6)
      have := reg_cls h
      omega
    · exact Nat.zero_le _
  · unfold listS newS
    rw [if_pos h6, if_pos h6]
    exact (cls_ok h (hs2 h6)).mem
end Go.Proofs.YtmaambipopgdkaaGreat.Cw

/-
  The sample registry is right; what two of its classes violate.
-/
namespace Go.Proofs.YtmaambipopgdkaaGreat.Cw
open Go.Cw Go.Proofs
set_option linter.unusedVariables false
set_option maxRecDepth 100000
set_option maxHeartbeats 8000000

def sK (x : UInt8) : Class := ⟨ByteArray.mk #[99, x], ByteArray.mk #[65], ByteArray.mk #[80, x], 1, [15], 0, [], [], []⟩
def sR : Reg := ⟨⟨5, 10, 480, 45⟩, ⟨2, 4, []⟩, [], ⟨[], []⟩, [], [sK 49, sK 50, sK 51], [], []⟩
/-- A rule on all classes. -/
def sU (kind n : Int) : Rule := ⟨ByteArray.mk #[117], 0, kind, .mk 1 (ByteArray.mk #[]) [], .mk 0 (ByteArray.mk #[]) [], n, [], [], 0⟩
end Go.Proofs.YtmaambipopgdkaaGreat.Cw

/-
  The sample registry, built.
-/
namespace Go.Proofs.YtmaambipopgdkaaGreat.Cw
open Go.Cw Go.Proofs
set_option linter.unusedVariables false
set_option maxRecDepth 100000
set_option maxHeartbeats 8000000
theorem c_sample0 : PCall Tryz.prog 23 [] (fun a => Leq a (ag sR.cells)) := by
  refine acall_of tok mixed 30 rfl (fn := Tryz.f23) (c := Tryz.f23.body.getD .skip) (by kernel_rfl) (by kernel_rfl) (by kernel_rfl) rfl 0 rfl ?_
  repeat' (first | refine o1 ?_ | refine o2 ?_ | refine k1 ?_ | refine k2 ?_ | refine k4 ?_ | refine And.intro ?_ ?_ | exact (by kernel_rfl : drawOk _ _ = true) | fail)
  refine code_rounds 4 ?_
  repeat' (first | (refine ⟨ByteArray.mk #[49], rfl, rfl, ?_⟩) | (refine ⟨ByteArray.mk #[50], rfl, rfl, ?_⟩) | (refine ⟨ByteArray.mk #[51], rfl, rfl, ?_⟩) | refine o1 ?_ | refine o2 ?_ | refine k1 ?_ | refine k2 ?_ | refine k3 ?_ | refine k4 ?_ | refine k6 ?_ | refine k7 ?_ | refine k8 ?_ | refine And.intro ?_ ?_ | (intro h; first | exact Bool.noConfusion h | exact nz _ h | exact nl h | (simp at h; done) | (simp at h; first | (exfalso; omega) | skip) | skip) | (refine (?_ : srcLen _ = rowsLen _); rfl) | exact Nat.le_of_ble_eq_true rfl | refine eqv_zero ?_ | refine eqv_wrap (by omega) (by omega) ?_ | refine eqv_u8 (by omega) (by omega) ?_ | (refine (?_ : _ = rowsLen _); simp [rowsLen] <;> omega) | (refine eqv_rfl ?_) | fail)
  change retOk _ _ _ _
  refine ret_pure rfl ?_ ?_
  · repeat' (first | exact True.intro | exact Nat.le_refl _ | refine And.intro ?_ ?_)
    intro r hr
    rcases List.mem_cons.1 hr with rfl | hr
    · repeat' (first | exact True.intro | exact Nat.le_refl _ | refine And.intro ?_ ?_)
    rcases List.mem_cons.1 hr with rfl | hr
    · repeat' (first | exact True.intro | exact Nat.le_refl _ | refine And.intro ?_ ?_)
    rcases List.mem_cons.1 hr with rfl | hr
    · repeat' (first | exact True.intro | exact Nat.le_refl _ | refine And.intro ?_ ?_)
    · cases hr
  · refine ⟨ALe.agg (l := pvs _) (m := pvs sR.cells) ?_⟩
    have hk : ∀ x : UInt8, PLeL [es (ByteArray.mk #[99] ++ ByteArray.mk #[x]), es (ByteArray.mk #[65]), es (ByteArray.mk #[80] ++ ByteArray.mk #[x]), ei 1, .sl 1 [[ei 15]], ei 0, .val (.slice none 0 0), .val (.slice none 0 0), .val (.slice none 0 0)] (sK x).row := fun x =>
      ⟨PLe.refl, PLe.refl, PLe.refl, PLe.refl, PLe.refl, PLe.refl, PLe.nil, PLe.nil, PLe.nil, trivial⟩
    have nn : ∀ z, ALe (.pv (.val (.slice none 0 0))) (.pv (.sl z [])) := fun z => ALe.pv PLe.nil
    exact ⟨ALe.refl, ALe.refl, ALe.refl, ALe.refl, ALe.refl, ALe.refl, nn _, nn _, nn _, nn _, nn _, ALe.pv (PLe.sl ⟨hk 49, hk 50, hk 51, trivial⟩), nn _, nn _, trivial⟩
theorem c_sample : PCall Tryz.prog 23 [] (fun a => a = ag sR.cells) := c_sample0.weak fun r h => ⟨_, h.le, rfl⟩
end Go.Proofs.YtmaambipopgdkaaGreat.Cw
