/-
  Part 8 of the proof (K9): what later parts use. No conditions.
-/
import Derived.Test.YtmaambipopgdkaaGreatMZ7

/-
  travel.Close: the table of the shortest ways.
-/
namespace Go.Proofs.YtmaambipopgdkaaGreat.Cw
open Go Go.Cw Go.Proofs
set_option linter.unusedVariables false
set_option maxRecDepth 100000
set_option maxHeartbeats 8000000
/-- A call that is handed pure values and hands back a row of its own. -/
theorem call_row {P : Program} {H : Heap} {K : AV → Heap → Prop} {f : FuncId} {args : List AV} {o : AObj} {n : Nat} (k : Nat) (hk : H.length = k) (al : List AV) (ha : args = renL H.length [] al) (hc : ACall P f al [] (fun r H' => r = .ms 0 1 0 n ∧ H' = [some o])) (ho : ∀ d rn, renO d rn o = o) (hK : K (.ms k 1 0 n) (H ++ [some o])) : vcFun P f args H K := by
  subst hk
  refine call_obj [] [] al rfl trivial ha hc fun r Hc' hp => ?_
  obtain ⟨rfl, rfl⟩ := hp
  refine ⟨Nat.zero_le _, ?_⟩
  simp only [List.length_cons, List.length_nil, tabl, List.nil_append, taken, renOpt, ho, List.map_cons, List.map_nil]
  exact hK
def outV (i : Nat) : AV := match i with
  | 0 => .pv (.val (.slice none 0 0))
  | i + 1 => .ms 3 1 0 (i + 1)
def outO (n i : Nat) : Option AObj := match i with
  | 0 => none
  | i + 1 => some ⟨24, 1, false, .m (cellsI 4 n (i + 1))⟩
def qT (W : List (List Int)) (j i : Nat) : List (List PV) := if j < i then (W.getD j []).map fun n => [ei n] else []
def tailT (W : List (List Int)) (i : Nat) : Heap := [obP 3 1 (qT W 0 i), obP 3 1 (qT W 1 i), obP 3 1 (qT W 2 i), obP 3 1 (qT W 3 i), obP 3 1 (qT W 4 i), obP 3 1 (qT W 5 i), obP 3 1 (qT W 6 i), obP 3 1 (qT W 7 i)]
theorem outV_pos {i : Nat} (h : 0 < i) : outV i = .ms 3 1 0 i := by
  cases i with
  | zero => omega
  | succ i => rfl
theorem outO_pos {n i : Nat} (h : 0 < i) : outO n i = some ⟨24, 1, false, .m (cellsI 4 n i)⟩ := by
  cases i with
  | zero => omega
  | succ i => rfl
theorem ob_row {l : List Int} (h : 0 < l.length) : obP 3 1 (l.map fun n => [ei n]) = some (rowO l) := by
  cases l with
  | nil => simp at h
  | cons a l => rfl
theorem qT_in {W : List (List Int)} {j i : Nat} (h : j < i) : qT W j i = (W.getD j []).map fun n => [ei n] := if_pos h
theorem tail_at {W : List (List Int)} {u i : Nat} (h : u < 8) : (tailT W i)[u]? = some (obP 3 1 (qT W u i)) := by
  match u, h with
  | 0, _ => rfl
  | 1, _ => rfl
  | 2, _ => rfl
  | 3, _ => rfl
  | 4, _ => rfl
  | 5, _ => rfl
  | 6, _ => rfl
  | 7, _ => rfl
theorem tail_ok {W : List (List Int)} {n : Nat} (hn : n ≤ 8) (hW : W.length = n) (hR : ∀ l ∈ W, l.length = n) : RowsOk n (entB W) (tailT W n) := fun u hu => by
  obtain ⟨l, hl⟩ := getE (show u < W.length by omega)
  have hll := hR l (List.mem_of_getElem? hl)
  have hg : W.getD u [] = l := by rw [List.getD_eq_getElem?_getD, hl]; rfl
  rw [tail_at (by omega), qT_in hu, hg, ob_row (by omega)]
  have h1 : (matL n (entB W))[u]? = W[u]? := by rw [matL_ent hW hR]
  rw [matL_at hu, hl] at h1
  injection h1 with h1
  rw [h1]
theorem ret_travel {H : Heap} {B : List Str} {p : PV} {id n : Nat} (h1 : convC H 5 (.ms id 1 0 n) = some p) (h2 : okC H 5 (.ms id 1 0 n)) :
    retOk 0 (.tup [.agg [.pv (encStrs B), .ms id 1 0 n], vint .i64 0]) H (fun r H' => H' = [] ∧ r = .tup [.agg [.pv (encStrs B), .pv p], vint .i64 0]) := by
  refine ret_pure (r0 := .tup [.agg [.pv (encStrs B), .pv p], vint .i64 0]) ?_ ?_ rfl
  · simp only [conv, conv1, mapO, h1]; rfl
  · repeat' (first | exact h2 | exact True.intro | refine And.intro ?_ ?_)
theorem c_closeP (t : Travel) (hv : travE t = 0) (hp : 0 < t.blds.length) : PCall Tryz.prog 173 [ag t.row] (fun a => a = .tup [ag (closeV t).row, vint .i64 0]) := by
  obtain ⟨hn, hW, hR, hD⟩ := trav_ok hv
  have h1 := c_travel t
  rw [hv] at h1
  have h2 := c_cloneStrs t.blds (by omega)
  obtain ⟨B, W⟩ := t
  dsimp only at hn hW hR hD h2 hp
  refine acall_of tok mixed 133 rfl (fn := Tryz.f173) (c := Tryz.f173.body.getD .skip) (by kernel_rfl) (by kernel_rfl) (by kernel_rfl) rfl 0 rfl ?_
  repeat' (first | ((change vcFun _ _ _ _ _; refine call_frz rfl (by repeat' (first | trivial | refine And.intro ?_ ?_ | (show 0 + _ ≤ List.length _; simp))) ALeL.refl h2 ?_; rintro _ rfl)) | refine o1 ?_ | refine o2 ?_ | refine k1 ?_ | refine k2 ?_ | refine k3 ?_ | refine k4 ?_ | refine k6 ?_ | refine And.intro ?_ ?_ | (intro h; first | exact Bool.noConfusion h | exact nz _ h | exact nl h | (simp at h; done) | (simp at h; first | (exfalso; omega) | skip) | skip) | exact (by kernel_rfl : drawOk _ _ = true) | refine eqv_len_map ?_ | (change vcFun _ _ _ _ _; refine call_eq rfl (by repeat' (first | trivial | refine And.intro ?_ ?_ | (show 0 + _ ≤ List.length _; simp))) ALeL.refl (h1) rfl ?_) | fail)
  refine loop_in (fun i : Nat => [(31, vint .i64 i)]) (fun i => some ⟨31, 2, false, .box [.pv (encStrs B), .pv (.sl 1 (W.map intsRow))]⟩ :: some ⟨31, 2, false, .box [.pv (.val (.slice none 0 0)), .pv (.val (.slice none 0 0))]⟩ :: some ⟨31, 2, false, .box [.pv (encStrs B), outV i]⟩ :: outO B.length i :: tailT W i) (fun i => i ≤ B.length) (fun i => B.length - i) 0 (Nat.zero_le _) ⟨?_, ?_⟩
  · exact back [0, 1, 2, 3, 4, 5, 6, 7, 8, 9, 10, 11] rfl rfl ⟨rfl, rfl, rfl, trivial⟩ (by repeat' (first | exact trivial | exact rfl | refine And.intro ?_ ?_))
  intro i hi
  rcases Nat.lt_or_ge i B.length with hlt | hge
  · obtain ⟨l, hl⟩ := getE (show i < W.length by omega)
    have hll := hR l (List.mem_of_getElem? hl)
    have hcl := c_cloneInts l (by omega)
    have hgl : W.getD i [] = l := by rw [List.getD_eq_getElem?_getD, hl]; rfl
    have hnew : obP 3 1 (qT W i (i + 1)) = some (rowO l) := by rw [qT_in (by omega), hgl, ob_row (by omega)]
    rw [hll] at hcl
    have hW0 : W ≠ [] := fun e => by rw [e] at hl; simp at hl
    by_cases h0 : i = 0
    · subst h0
      repeat' (first | (refine join_in (a := .block 1 _) (fun _ => []) (fun _ : Unit => [some ⟨31, 2, false, .box [.pv (encStrs B), .pv (.sl 1 (W.map intsRow))]⟩, some ⟨31, 2, false, .box [.pv (.val (.slice none 0 0)), .pv (.val (.slice none 0 0))]⟩, some ⟨31, 2, false, .box [.pv (encStrs B), .ms 13 1 0 1]⟩, none, none, none, none, none, none, none, none, none, some ⟨24, 1, false, .m [[.ms 14 1 0 B.length]]⟩, some ⟨24, 1, false, .m [[.ms 14 1 0 B.length]]⟩, some (rowO l)]) (fun _ => True) ?_) | (refine code_region_any ?_) | ((change vcFun _ _ _ _ _; refine call_row 14 rfl [.pv (encInts l)] rfl hcl (fun _ _ => rfl) ?_)) | ((refine eqv_to (Rows.m [[.ms 14 1 0 B.length]]) rfl (eqv_to 1 rfl ?_))) | refine o1 ?_ | refine o2 ?_ | refine k1 ?_ | refine k2 ?_ | refine k3 ?_ | refine k4 ?_ | refine k6 ?_ | refine k8 ?_ | refine And.intro ?_ ?_ | exact trivial | refine o5 ?_ | refine o6 ?_ | (intro h; first | exact Bool.noConfusion h | exact nz _ h | exact nl h | (simp at h; done) | (simp at h; first | (exfalso; omega) | skip) | skip) | (refine (?_ : srcLen _ = rowsLen _); rfl) | exact Nat.le_of_ble_eq_true rfl | refine eqv_len_map ?_ | refine ⟨_, _, (by first | rfl | assumption), at_map (by assumption), ?_⟩ | fail)
      all_goals first
        | exact ⟨(), True.intro, back_same (by repeat (first | exact keep_nil | refine keep_cons rfl ?_))⟩
        | exact absurd (by assumption) hW0
        | skip
      refine ⟨fun _ _ => ?_⟩
      repeat' (first | refine o1 ?_ | refine o2 ?_ | refine k2 ?_ | refine eqv_wrap (by omega) (by omega) ?_ | fail)
      exact ⟨1, by omega, by omega, back [0, 1, 2, 13, 14, 5, 6, 7, 8, 9, 10, 11] rfl rfl (by repeat' (first | exact trivial | exact rfl | refine kept_ob ?_ ?_ | refine And.intro ?_ ?_ | exact congrArg some hnew.symm)) (by repeat' (first | exact trivial | exact rfl | refine And.intro ?_ ?_))⟩
    · have hpos : 0 < i := by omega
      dsimp only
      rw [outV_pos hpos, outO_pos hpos, show tailT W i = [obP 3 1 (qT W 0 i), obP 3 1 (qT W 1 i), obP 3 1 (qT W 2 i), obP 3 1 (qT W 3 i), obP 3 1 (qT W 4 i), obP 3 1 (qT W 5 i), obP 3 1 (qT W 6 i), obP 3 1 (qT W 7 i)] from rfl]
      have hcn : (cellsI 4 B.length i).length = i := cellsI_len
      generalize hp0 : qT W 0 i = p0
      generalize hp1 : qT W 1 i = p1
      generalize hp2 : qT W 2 i = p2
      generalize hp3 : qT W 3 i = p3
      generalize hp4 : qT W 4 i = p4
      generalize hp5 : qT W 5 i = p5
      generalize hp6 : qT W 6 i = p6
      generalize hp7 : qT W 7 i = p7
      repeat' (first | (refine fh_ob ?_) | (refine join_in (a := .block 1 _) (fun _ => []) (fun _ : Unit => [some ⟨31, 2, false, .box [.pv (encStrs B), .pv (.sl 1 (W.map intsRow))]⟩, some ⟨31, 2, false, .box [.pv (.val (.slice none 0 0)), .pv (.val (.slice none 0 0))]⟩, some ⟨31, 2, false, .box [.pv (encStrs B), .ms 13 1 0 (i + 1)]⟩, none, obP 3 1 p0, obP 3 1 p1, obP 3 1 p2, obP 3 1 p3, obP 3 1 p4, obP 3 1 p5, obP 3 1 p6, obP 3 1 p7, some ⟨24, 1, false, .m [[.ms 14 1 0 B.length]]⟩, some ⟨24, 1, false, .m (cellsI 4 B.length i ++ [[.ms 14 1 0 B.length]])⟩, some (rowO l)]) (fun _ => True) ?_) | (refine code_region_any ?_) | ((change vcFun _ _ _ _ _; refine call_row 14 rfl [.pv (encInts l)] rfl hcl (fun _ _ => rfl) ?_)) | ((refine eqv_to (Rows.m (cellsI 4 B.length i ++ [[.ms 14 1 0 B.length]])) rfl (eqv_to (i + 1) (by simp [rowsLen, cellsI_len]) ?_))) | refine o1 ?_ | refine o2 ?_ | refine k1 ?_ | refine k2 ?_ | refine k3 ?_ | refine k4 ?_ | refine k6 ?_ | refine And.intro ?_ ?_ | exact trivial | refine o5 ?_ | refine o6 ?_ | (intro h; first | exact Bool.noConfusion h | exact nz _ h | exact nl h | (simp at h; done) | (simp at h; first | (exfalso; omega) | skip) | skip) | (refine (?_ : srcLen _ = rowsLen _); rfl) | refine ⟨_, _, (by first | rfl | assumption), at_map (by assumption), ?_⟩ | (refine (?_ : _ ≤ 140737488355328); simp [rowsLen] <;> omega) | (refine (?_ : _ ≤ 9223372036854775807); simp [rowsLen] <;> omega) | (refine (?_ : _ = rowsLen _); simp [rowsLen] <;> omega) | fail)
      all_goals first
        | exact ⟨(), True.intro, back_same (by repeat (first | exact keep_nil | refine keep_cons rfl ?_))⟩
        | skip
      refine ⟨fun _ _ => ?_⟩
      repeat' (first | (refine fh_ob ?_) | refine o1 ?_ | refine o2 ?_ | refine k2 ?_ | refine eqv_wrap (by omega) (by omega) ?_ | fail)
      subst hp0 hp1 hp2 hp3 hp4 hp5 hp6 hp7
      clear hcn
      have h8 : i = 1 ∨ i = 2 ∨ i = 3 ∨ i = 4 ∨ i = 5 ∨ i = 6 ∨ i = 7 := by omega
      rcases h8 with rfl | rfl | rfl | rfl | rfl | rfl | rfl
      · exact ⟨2, by omega, by omega, back [0, 1, 2, 13, 4, 14, 6, 7, 8, 9, 10, 11] rfl rfl (by repeat' (first | exact trivial | exact rfl | refine kept_ob ?_ ?_ | refine And.intro ?_ ?_ | exact congrArg some hnew.symm)) (by repeat' (first | exact trivial | exact rfl | refine And.intro ?_ ?_))⟩
      · exact ⟨3, by omega, by omega, back [0, 1, 2, 13, 4, 5, 14, 7, 8, 9, 10, 11] rfl rfl (by repeat' (first | exact trivial | exact rfl | refine kept_ob ?_ ?_ | refine And.intro ?_ ?_ | exact congrArg some hnew.symm)) (by repeat' (first | exact trivial | exact rfl | refine And.intro ?_ ?_))⟩
      · exact ⟨4, by omega, by omega, back [0, 1, 2, 13, 4, 5, 6, 14, 8, 9, 10, 11] rfl rfl (by repeat' (first | exact trivial | exact rfl | refine kept_ob ?_ ?_ | refine And.intro ?_ ?_ | exact congrArg some hnew.symm)) (by repeat' (first | exact trivial | exact rfl | refine And.intro ?_ ?_))⟩
      · exact ⟨5, by omega, by omega, back [0, 1, 2, 13, 4, 5, 6, 7, 14, 9, 10, 11] rfl rfl (by repeat' (first | exact trivial | exact rfl | refine kept_ob ?_ ?_ | refine And.intro ?_ ?_ | exact congrArg some hnew.symm)) (by repeat' (first | exact trivial | exact rfl | refine And.intro ?_ ?_))⟩
      · exact ⟨6, by omega, by omega, back [0, 1, 2, 13, 4, 5, 6, 7, 8, 14, 10, 11] rfl rfl (by repeat' (first | exact trivial | exact rfl | refine kept_ob ?_ ?_ | refine And.intro ?_ ?_ | exact congrArg some hnew.symm)) (by repeat' (first | exact trivial | exact rfl | refine And.intro ?_ ?_))⟩
      · exact ⟨7, by omega, by omega, back [0, 1, 2, 13, 4, 5, 6, 7, 8, 9, 14, 11] rfl rfl (by repeat' (first | exact trivial | exact rfl | refine kept_ob ?_ ?_ | refine And.intro ?_ ?_ | exact congrArg some hnew.symm)) (by repeat' (first | exact trivial | exact rfl | refine And.intro ?_ ?_))⟩
      · exact ⟨8, by omega, by omega, back [0, 1, 2, 13, 4, 5, 6, 7, 8, 9, 10, 14] rfl rfl (by repeat' (first | exact trivial | exact rfl | refine kept_ob ?_ ?_ | refine And.intro ?_ ?_ | exact congrArg some hnew.symm)) (by repeat' (first | exact trivial | exact rfl | refine And.intro ?_ ?_))⟩
  · obtain rfl : i = B.length := by omega
    have hpos := hp
    have hT := tail_ok hn hW hR
    dsimp only
    rw [outV_pos hpos, outO_pos hpos]
    generalize tailT W B.length = T0 at hT ⊢
    repeat' (first | ((change forceH _ _; refine forceH_in ?_)) | refine o1 ?_ | refine o2 ?_ | refine k1 ?_ | refine k2 ?_ | refine k3 ?_ | refine k4 ?_ | refine k8 ?_ | refine And.intro ?_ ?_ | (intro h; first | exact Bool.noConfusion h | exact nz _ h | exact nl h | (simp at h; done) | (simp at h; first | (exfalso; omega) | skip) | skip) | refine eqv_len_map ?_ | fail)
    refine loop_in (fun x : Nat × Heap => [(47, vint .i64 x.1)]) (fun x => some ⟨31, 2, false, .box [.pv (encStrs B), .pv (.sl 1 (W.map intsRow))]⟩ :: some ⟨31, 2, false, .box [.pv (.val (.slice none 0 0)), .pv (.val (.slice none 0 0))]⟩ :: some ⟨31, 2, false, .box [.pv (encStrs B), .ms 3 1 0 B.length]⟩ :: some ⟨24, 1, false, .m (cellsI 4 B.length B.length)⟩ :: x.2) (fun x => x.1 ≤ B.length ∧ RowsOk B.length (dist W x.1) x.2) (fun x => B.length - x.1) (0, T0) ⟨Nat.zero_le _, hT⟩ ⟨?_, ?_⟩
    · exact back_same (by repeat (first | exact keep_nil | refine keep_cons rfl ?_))
    clear hT
    rintro ⟨o, T0⟩ ⟨ho, hT⟩
    dsimp only at ho hT ⊢
    rcases Nat.lt_or_ge o B.length with hol | hog
    · have hDo := dist_le hD hn ho
      repeat' (first | ((change forceH _ _; refine forceH_in ?_)) | refine o1 ?_ | refine o2 ?_ | refine k1 ?_ | refine k2 ?_ | refine k3 ?_ | refine k4 ?_ | refine k6 ?_ | refine And.intro ?_ ?_ | (intro h; first | exact Bool.noConfusion h | exact nz _ h | exact nl h | (simp at h; done) | (simp at h; first | (exfalso; omega) | skip) | skip) | fail)
      refine loop_in (fun x : Nat × Heap => [(51, vint .i64 x.1)]) (fun x => some ⟨31, 2, false, .box [.pv (encStrs B), .pv (.sl 1 (W.map intsRow))]⟩ :: some ⟨31, 2, false, .box [.pv (.val (.slice none 0 0)), .pv (.val (.slice none 0 0))]⟩ :: some ⟨31, 2, false, .box [.pv (encStrs B), .ms 3 1 0 B.length]⟩ :: some ⟨24, 1, false, .m (cellsI 4 B.length B.length)⟩ :: x.2) (fun x => x.1 ≤ B.length ∧ RowsOk B.length (mixD (dist W o) o x.1 0) x.2) (fun x => B.length - x.1) (0, T0) ⟨Nat.zero_le _, hT.congr fun a c _ _ => mix_zero.symm⟩ ⟨?_, ?_⟩
      · exact back_same (by repeat (first | exact keep_nil | refine keep_cons rfl ?_))
      clear hT
      rintro ⟨i, T0⟩ ⟨hi, hT⟩
      dsimp only at hi hT ⊢
      rcases Nat.lt_or_ge i B.length with hil | hig
      · repeat' (first | ((change forceH _ _; refine forceH_in ?_)) | refine o1 ?_ | refine o2 ?_ | refine k1 ?_ | refine k2 ?_ | refine k3 ?_ | refine k4 ?_ | refine k6 ?_ | refine And.intro ?_ ?_ | (intro h; first | exact Bool.noConfusion h | exact nz _ h | exact nl h | (simp at h; done) | (simp at h; first | (exfalso; omega) | skip) | skip) | fail)
        refine loop_in (fun x : Nat × Heap => [(55, vint .i64 x.1)]) (fun x => some ⟨31, 2, false, .box [.pv (encStrs B), .pv (.sl 1 (W.map intsRow))]⟩ :: some ⟨31, 2, false, .box [.pv (.val (.slice none 0 0)), .pv (.val (.slice none 0 0))]⟩ :: some ⟨31, 2, false, .box [.pv (encStrs B), .ms 3 1 0 B.length]⟩ :: some ⟨24, 1, false, .m (cellsI 4 B.length B.length)⟩ :: x.2) (fun x => x.1 ≤ B.length ∧ RowsOk B.length (mixD (dist W o) o i x.1) x.2) (fun x => B.length - x.1) (0, T0) ⟨Nat.zero_le _, hT⟩ ⟨?_, ?_⟩
        · exact back_same (by repeat (first | exact keep_nil | refine keep_cons rfl ?_))
        clear hT
        rintro ⟨k, T0⟩ ⟨hk, hT⟩
        dsimp only at hk hT ⊢
        rcases Nat.lt_or_ge k B.length with hkl | hkg
        · have hTi := hT i hil
          have hTo := hT o hol
          have ei1 := rowL_at (D := mixD (dist W o) o i k) (i := i) hol
          have ei2 := rowL_at (D := mixD (dist W o) o i k) (i := o) hkl
          have ei3 := rowL_at (D := mixD (dist W o) o i k) (i := i) hkl
          rw [mix_col hDo hol hil] at ei1
          rw [mix_row hDo hol hkl] at ei2
          rw [mix_at] at ei3
          have b1 := hDo.lo i o hil hol
          have b2 := hDo.hi i o hil hol
          have b3 := hDo.lo o k hol hkl
          have b4 := hDo.hi o k hol hkl
          have b5 := hDo.lo i k hil hkl
          have b6 := hDo.hi i k hil hkl
          have hstep : stepE (dist W o) o i k = if dist W o i o = -1 ∨ dist W o o k = -1 then dist W o i k else if dist W o i k = -1 ∨ dist W o i o + dist W o o k < dist W o i k then dist W o i o + dist W o o k else dist W o i k := rfl
          have hno : stepE (dist W o) o i k = dist W o i k → RowsOk B.length (mixD (dist W o) o i (k + 1)) T0 := fun e => hT.congr fun a c _ _ => by
            rw [mix_next]
            split
            · rename_i e2; obtain ⟨rfl, rfl⟩ := e2; rw [mix_at, e]
            · rfl
          have hyes : stepE (dist W o) o i k = dist W o i o + dist W o o k → RowsOk B.length (mixD (dist W o) o i (k + 1)) (T0.set i (some (rowO ((rowL B.length (mixD (dist W o) o i k) i).set k (dist W o i o + dist W o o k))))) := fun e => hT.set hil hkl fun a c _ _ => by rw [mix_next, e]
          repeat' (first | ((change forceH _ _; refine forceH_in ?_)) | (refine ⟨_, cellsI_at (by assumption), ?_⟩) | (simp only [List.getElem?_cons_succ, hTi, rowO]) | (simp only [List.getElem?_cons_succ, hTo, rowO]) | (((conv => whnf); simp only [List.getElem?_cons_succ, hTi, rowO])) | refine o1 ?_ | refine o2 ?_ | refine k1 ?_ | refine k2 ?_ | refine k3 ?_ | refine k4 ?_ | refine k6 ?_ | refine k8 ?_ | refine And.intro ?_ ?_ | refine o3 ?_ | refine o4 ?_ | (intro h; first | exact Bool.noConfusion h | exact nz _ h | exact nl h | (simp at h; done) | (simp at h; first | (exfalso; omega) | skip) | skip) | exact Nat.le_of_ble_eq_true rfl | exact (by kernel_rfl : drawOk _ _ = true) | refine eqv_zero ?_ | refine eqv_wrap (by omega) (by omega) ?_ | refine eqv_to _ (set_map rfl rfl) ?_ | refine ⟨_, at_map (by assumption), ?_⟩ | refine idx_ms _ (by first | rfl | assumption) (by first | assumption | omega) ?_ | fail)
          all_goals first
            | exact ⟨(k + 1, T0), ⟨by dsimp only; omega, hno (by rw [hstep]; (repeat' split) <;> omega)⟩, by dsimp only; omega, back_same (by repeat (first | exact keep_nil | refine keep_cons rfl ?_))⟩
            | exact ⟨(k + 1, T0.set i _), ⟨by dsimp only; omega, hyes (by rw [hstep]; (repeat' split) <;> omega)⟩, by dsimp only; omega, back_same (by repeat (first | exact keep_nil | refine keep_cons rfl ?_))⟩
        · obtain rfl : k = B.length := by omega
          repeat' (first | ((change forceH _ _; refine forceH_in ?_)) | refine o1 ?_ | refine o2 ?_ | refine k1 ?_ | refine k2 ?_ | refine k3 ?_ | refine k8 ?_ | refine And.intro ?_ ?_ | (intro h; first | exact Bool.noConfusion h | exact nz _ h | exact nl h | (simp at h; done) | (simp at h; first | (exfalso; omega) | skip) | skip) | refine eqv_wrap (by omega) (by omega) ?_ | fail)
          exact ⟨(i + 1, T0), ⟨by dsimp only; omega, hT.congr fun a c _ hc => mix_turn hc⟩, by dsimp only; omega, back_same (by repeat (first | exact keep_nil | refine keep_cons rfl ?_))⟩
      · obtain rfl : i = B.length := by omega
        repeat' (first | ((change forceH _ _; refine forceH_in ?_)) | refine o1 ?_ | refine o2 ?_ | refine k1 ?_ | refine k2 ?_ | refine k3 ?_ | refine k8 ?_ | refine And.intro ?_ ?_ | (intro h; first | exact Bool.noConfusion h | exact nz _ h | exact nl h | (simp at h; done) | (simp at h; first | (exfalso; omega) | skip) | skip) | refine eqv_wrap (by omega) (by omega) ?_ | fail)
        exact ⟨(o + 1, T0), ⟨by dsimp only; omega, hT.congr fun a c ha _ => mix_all ha⟩, by dsimp only; omega, back_same (by repeat (first | exact keep_nil | refine keep_cons rfl ?_))⟩
    · obtain rfl : o = B.length := by omega
      have hDn := dist_le hD hn (Nat.le_refl _)
      repeat' (first | ((change forceH _ _; refine forceH_in ?_)) | refine o1 ?_ | refine o2 ?_ | refine k1 ?_ | refine k2 ?_ | refine k3 ?_ | refine k4 ?_ | refine k8 ?_ | refine And.intro ?_ ?_ | (intro h; first | exact Bool.noConfusion h | exact nz _ h | exact nl h | (simp at h; done) | (simp at h; first | (exfalso; omega) | skip) | skip) | fail)
      refine loop_in (fun x : Nat × Heap => [(113, vint .i64 x.1)]) (fun x => some ⟨31, 2, false, .box [.pv (encStrs B), .pv (.sl 1 (W.map intsRow))]⟩ :: some ⟨31, 2, false, .box [.pv (.val (.slice none 0 0)), .pv (.val (.slice none 0 0))]⟩ :: some ⟨31, 2, false, .box [.pv (encStrs B), .ms 3 1 0 B.length]⟩ :: some ⟨24, 1, false, .m (cellsI 4 B.length B.length)⟩ :: x.2) (fun x => x.1 ≤ B.length ∧ RowsOk B.length (mixG (dist W B.length) (fun a c => min (dist W B.length a c) 24) x.1 0) x.2) (fun x => B.length - x.1) (0, T0) ⟨Nat.zero_le _, hT.congr fun a c _ _ => (if_neg (by omega)).symm⟩ ⟨?_, ?_⟩
      · exact back_same (by repeat (first | exact keep_nil | refine keep_cons rfl ?_))
      clear hT
      rintro ⟨i, T0⟩ ⟨hi, hT⟩
      dsimp only at hi hT ⊢
      rcases Nat.lt_or_ge i B.length with hil | hig
      · repeat' (first | ((change forceH _ _; refine forceH_in ?_)) | (refine ⟨_, cellsI_at (by assumption), ?_⟩) | refine o1 ?_ | refine o2 ?_ | refine k1 ?_ | refine k2 ?_ | refine k3 ?_ | refine k4 ?_ | refine k6 ?_ | refine And.intro ?_ ?_ | (intro h; first | exact Bool.noConfusion h | exact nz _ h | exact nl h | (simp at h; done) | (simp at h; first | (exfalso; omega) | skip) | skip) | refine eqv_zero ?_ | refine idx_ms _ (by first | rfl | assumption) (by first | assumption | omega) ?_ | fail)
        refine loop_in (fun x : Nat × Heap => [(119, vint .i64 x.1)]) (fun x => some ⟨31, 2, false, .box [.pv (encStrs B), .pv (.sl 1 (W.map intsRow))]⟩ :: some ⟨31, 2, false, .box [.pv (.val (.slice none 0 0)), .pv (.val (.slice none 0 0))]⟩ :: some ⟨31, 2, false, .box [.pv (encStrs B), .ms 3 1 0 B.length]⟩ :: some ⟨24, 1, false, .m (cellsI 4 B.length B.length)⟩ :: x.2) (fun x => x.1 ≤ B.length ∧ RowsOk B.length (mixG (dist W B.length) (fun a c => min (dist W B.length a c) 24) i x.1) x.2) (fun x => B.length - x.1) (0, T0) ⟨Nat.zero_le _, hT⟩ ⟨?_, ?_⟩
        · exact back_same (by repeat (first | exact keep_nil | refine keep_cons rfl ?_))
        clear hT
        rintro ⟨k, T0⟩ ⟨hk, hT⟩
        dsimp only at hk hT ⊢
        rcases Nat.lt_or_ge k B.length with hkl | hkg
        · have hTi := hT i hil
          have ei3 := rowL_at (D := mixG (dist W B.length) (fun a c => min (dist W B.length a c) 24) i k) (i := i) hkl
          rw [mixG_at] at ei3
          have hmin : (bif false then if 24 > dist W B.length i k then 24 else dist W B.length i k else if 24 < dist W B.length i k then 24 else dist W B.length i k) = min (dist W B.length i k) 24 := by
            show (if 24 < dist W B.length i k then (24 : Int) else dist W B.length i k) = _
            split <;> omega
          have hyes : RowsOk B.length (mixG (dist W B.length) (fun a c => min (dist W B.length a c) 24) i (k + 1)) (T0.set i (some (rowO ((rowL B.length (mixG (dist W B.length) (fun a c => min (dist W B.length a c) 24) i k) i).set k (bif false then if 24 > dist W B.length i k then 24 else dist W B.length i k else if 24 < dist W B.length i k then 24 else dist W B.length i k))))) := by
            rw [hmin]
            exact hT.set hil hkl fun a c _ _ => by rw [mixG_next]
          repeat' (first | ((change forceH _ _; refine forceH_in ?_)) | (simp only [List.getElem?_cons_succ, hTi, rowO]) | (((conv => whnf); simp only [List.getElem?_cons_succ, hTi, rowO])) | refine o1 ?_ | refine o2 ?_ | refine k1 ?_ | refine k2 ?_ | refine k3 ?_ | refine k4 ?_ | refine k6 ?_ | refine And.intro ?_ ?_ | (intro h; first | exact Bool.noConfusion h | exact nz _ h | exact nl h | (simp at h; done) | (simp at h; first | (exfalso; omega) | skip) | skip) | exact Nat.le_of_ble_eq_true rfl | refine eqv_zero ?_ | refine eqv_wrap (by omega) (by omega) ?_ | refine eqv_to _ (set_map rfl rfl) ?_ | refine ⟨_, at_map (by assumption), ?_⟩ | refine idx_ms _ (by first | rfl | assumption) (by first | assumption | omega) ?_ | fail)
          exact ⟨(k + 1, T0.set i _), ⟨by dsimp only; omega, hyes⟩, by dsimp only; omega, back_same (by repeat (first | exact keep_nil | refine keep_cons rfl ?_))⟩
        · obtain rfl : k = B.length := by omega
          repeat' (first | ((change forceH _ _; refine forceH_in ?_)) | refine o1 ?_ | refine o2 ?_ | refine k1 ?_ | refine k2 ?_ | refine k3 ?_ | refine k8 ?_ | refine And.intro ?_ ?_ | (intro h; first | exact Bool.noConfusion h | exact nz _ h | exact nl h | (simp at h; done) | (simp at h; first | (exfalso; omega) | skip) | skip) | refine eqv_wrap (by omega) (by omega) ?_ | fail)
          exact ⟨(i + 1, T0), ⟨by dsimp only; omega, hT.congr fun a c _ hc => mixG_turn hc⟩, by dsimp only; omega, back_same (by repeat (first | exact keep_nil | refine keep_cons rfl ?_))⟩
      · obtain rfl : i = B.length := by omega
        have hE := hT.congr (E := fun a c => min (dist W B.length a c) 24) fun a c ha _ => mixG_all ha
        repeat' (first | ((change forceH _ _; refine forceH_in ?_)) | refine o1 ?_ | refine o2 ?_ | refine k1 ?_ | refine k2 ?_ | refine k3 ?_ | refine k7 ?_ | refine k8 ?_ | refine And.intro ?_ ?_ | (intro h; first | exact Bool.noConfusion h | exact nz _ h | exact nl h | (simp at h; done) | (simp at h; first | (exfalso; omega) | skip) | skip) | fail)
        change retOk _ _ _ _
        exact ret_travel (conv_mat rfl hE fun j => rfl) (ok_mat rfl hE fun j => rfl)
theorem c_closeE (t : Travel) (hv : travE t = 0) (hp : t.blds.length = 0) : PCall Tryz.prog 173 [ag t.row] (fun a => Leq a (.tup [ag (closeV t).row, vint .i64 0])) := by
  obtain ⟨hn, hW, hR, hD⟩ := trav_ok hv
  have h1 := c_travel t
  rw [hv] at h1
  have h2 := c_cloneStrs t.blds (by omega)
  obtain ⟨B, W⟩ := t
  dsimp only at hn hW hR hD h2 hp
  obtain rfl := List.eq_nil_of_length_eq_zero hp
  obtain rfl := List.eq_nil_of_length_eq_zero hW
  refine acall_of tok mixed 133 rfl (fn := Tryz.f173) (c := Tryz.f173.body.getD .skip) (by kernel_rfl) (by kernel_rfl) (by kernel_rfl) rfl 0 rfl ?_
  repeat' (first | ((change vcFun _ _ _ _ _; refine call_frz rfl (by repeat' (first | trivial | refine And.intro ?_ ?_ | (show 0 + _ ≤ List.length _; simp))) ALeL.refl h2 ?_; rintro _ rfl)) | refine o1 ?_ | refine o2 ?_ | refine k1 ?_ | refine k2 ?_ | refine k3 ?_ | refine k4 ?_ | refine k6 ?_ | refine And.intro ?_ ?_ | (intro h; first | exact Bool.noConfusion h | exact nz _ h | exact nl h | (simp at h; done) | (simp at h; first | (exfalso; omega) | skip) | skip) | exact (by kernel_rfl : drawOk _ _ = true) | refine eqv_len_map ?_ | (change vcFun _ _ _ _ _; refine call_eq rfl (by repeat' (first | trivial | refine And.intro ?_ ?_ | (show 0 + _ ≤ List.length _; simp))) ALeL.refl (h1) rfl ?_) | fail)
  refine loop_in (fun _ : Unit => [(31, vint .i64 0)]) (fun _ => [some ⟨31, 2, false, .box [.pv (encStrs []), .pv (.sl 1 (List.map intsRow []))]⟩, some ⟨31, 2, false, .box [.pv (.val (.slice none 0 0)), .pv (.val (.slice none 0 0))]⟩, some ⟨31, 2, false, .box [.pv (encStrs []), .pv (.val (.slice none 0 0))]⟩]) (fun _ => True) (fun _ => 0) () True.intro ⟨back [0, 1, 2] rfl rfl ⟨rfl, rfl, rfl, trivial⟩ (by repeat' (first | exact trivial | exact rfl | refine And.intro ?_ ?_)), fun _ _ => ?_⟩
  repeat' (first | refine o1 ?_ | refine o2 ?_ | refine k1 ?_ | refine k2 ?_ | refine k3 ?_ | refine k4 ?_ | refine k8 ?_ | refine And.intro ?_ ?_ | (intro h; first | exact Bool.noConfusion h | exact nz _ h | exact nl h | (simp at h; done) | (simp at h; first | (exfalso; omega) | skip) | skip) | refine eqv_len_map ?_ | fail)
  refine loop_in (fun _ : Unit => [(47, vint .i64 0)]) (fun _ => [some ⟨31, 2, false, .box [.pv (encStrs []), .pv (.sl 1 (List.map intsRow []))]⟩, some ⟨31, 2, false, .box [.pv (.val (.slice none 0 0)), .pv (.val (.slice none 0 0))]⟩, some ⟨31, 2, false, .box [.pv (encStrs []), .pv (.val (.slice none 0 0))]⟩]) (fun _ => True) (fun _ => 0) () True.intro ⟨back [0, 1, 2] rfl rfl ⟨rfl, rfl, rfl, trivial⟩ (by repeat' (first | exact trivial | exact rfl | refine And.intro ?_ ?_)), fun _ _ => ?_⟩
  repeat' (first | refine o1 ?_ | refine o2 ?_ | refine k1 ?_ | refine k2 ?_ | refine k3 ?_ | refine k4 ?_ | refine k8 ?_ | refine And.intro ?_ ?_ | (intro h; first | exact Bool.noConfusion h | exact nz _ h | exact nl h | (simp at h; done) | (simp at h; first | (exfalso; omega) | skip) | skip) | fail)
  refine loop_in (fun _ : Unit => [(113, vint .i64 0)]) (fun _ => [some ⟨31, 2, false, .box [.pv (encStrs []), .pv (.sl 1 (List.map intsRow []))]⟩, some ⟨31, 2, false, .box [.pv (.val (.slice none 0 0)), .pv (.val (.slice none 0 0))]⟩, some ⟨31, 2, false, .box [.pv (encStrs []), .pv (.val (.slice none 0 0))]⟩]) (fun _ => True) (fun _ => 0) () True.intro ⟨back [0, 1, 2] rfl rfl ⟨rfl, rfl, rfl, trivial⟩ (by repeat' (first | exact trivial | exact rfl | refine And.intro ?_ ?_)), fun _ _ => ?_⟩
  repeat' (first | refine o1 ?_ | refine o2 ?_ | refine k1 ?_ | refine k2 ?_ | refine k3 ?_ | refine k7 ?_ | refine k8 ?_ | refine And.intro ?_ ?_ | (intro h; first | exact Bool.noConfusion h | exact nz _ h | exact nl h | (simp at h; done) | (simp at h; first | (exfalso; omega) | skip) | skip) | fail)
  all_goals
    change retOk _ _ _ _; refine ret_pure rfl (by repeat' (first | exact True.intro | refine And.intro ?_ ?_)) ?_
    exact ⟨ALe.tup ⟨ALe.agg ⟨ALe.refl, ALe.pv PLe.nil, trivial⟩, ALe.refl, trivial⟩⟩
theorem c_tclose (t : Travel) (hv : travE t = 0) : PCall Tryz.prog 173 [ag t.row] (fun a => a = .tup [ag (closeV t).row, vint .i64 0]) := by
  rcases Nat.eq_zero_or_pos t.blds.length with h | h
  · exact (c_closeE t hv h).weak fun r h => ⟨_, h.le, rfl⟩
  · exact c_closeP t hv h
end Go.Proofs.YtmaambipopgdkaaGreat.Cw
