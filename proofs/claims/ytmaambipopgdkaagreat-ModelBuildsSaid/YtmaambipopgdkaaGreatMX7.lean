/-
  Part 7 of the proof (AwakeM, V6, A3): what later parts use. No conditions.
-/
import Derived.Test.YtmaambipopgdkaaGreatMX6

/-
  The example with which each law of chapter 17 begins: it answers true. No conditions.
-/
namespace Go.Proofs.YtmaambipopgdkaaGreat.Cw
open Go.Cw Go.Proofs
theorem awake_ok : PCall Tryz.prog 8 [] (fun r => r = vbool true) := by
  have h : exFun T F 100000 20 8 [] [] = some (vbool true, []) := by kernel_rfl
  exact (exFun_ok tok fok mixed 100000 20 8 [] [] _ _ h).mono fun r H' e => ⟨e.2, e.1⟩
end Go.Proofs.YtmaambipopgdkaaGreat.Cw

/-
  The law on the models of any registry.
-/
namespace Go.Proofs.YtmaambipopgdkaaGreat.Cw
open Go.Cw Go.Proofs
set_option linter.unusedVariables false
set_option maxRecDepth 100000
set_option maxHeartbeats 4000000

theorem optionsV_len {r : Reg} {k : Int} : (optionsV r k).1.length ≤ 100000 := by
  unfold optionsV
  split
  · simp
  · split
    · simp
    · split
      · have := optsV_len (r := r) (c := ‹_›)
        show (optsV r _).length ≤ _
        omega
      · simp
theorem tabV_len {ent : Nat → Nat → Placed → Placed → Int} {i k : Nat} {x y : List Opt} (hx : x.length ≤ 24) (hy : y.length ≤ 24) : (tabV ent i k x y).length ≤ 576 := by
  have h1 := gr_len (F := rowV ent i k x y) (m := y.length) (fun i => rowV_len) x.length
  have h2 : x.length * y.length ≤ 24 * 24 := Nat.mul_le_mul hx hy
  unfold tabV; omega
theorem pairs_tab {M : Model} {rule : Int} {ent : Nat → Nat → Placed → Placed → Int} (hM : PairsOk M) {p : Pair} (hp : p ∈ pairsV M rule ent) : p.table.length ≤ 100000 := by
  obtain ⟨i, -, h2⟩ := List.mem_flatMap.1 hp
  obtain ⟨k, -, h3⟩ := List.mem_filterMap.1 h2
  unfold pairO at h3
  split at h3
  · rename_i x y hx hy
    split at h3
    · cases h3
      have := tabV_len (ent := ent) (i := i) (k := k) (hM.opt x (List.mem_of_getElem? hx)) (hM.opt y (List.mem_of_getElem? hy))
      show (tabV ent i k x y).length ≤ _
      omega
    · cases h3
  · cases h3
theorem buildM_eq (r : Reg) : ∃ L P n, buildM r = builtM L P n ∧ BuiltOk L P := by
  by_cases h : regE r = 0
  · by_cases h2 : buildE r = 0
    · obtain ⟨h3, h4⟩ := buildC_ok h h2
      have hM := built_pairs h h2 [] 2
      refine ⟨_, _, _, (buildM_ok h h2).1, by have := (reg_cls h).1; omega, fun l hl => by have := h4 l hl; omega, ?_, fun p hp => ?_⟩
      · have h5 := pairsV_len (rule := 0) (ent := entRoom) hM.cls
        have h6 := pairsV_len (rule := 1) (ent := entStaff r) hM.cls
        unfold builtP; rw [List.length_append]; omega
      · rcases List.mem_append.1 hp with hp | hp
        · exact pairs_tab hM hp
        · exact pairs_tab hM hp
    · exact ⟨[], [], 0, (buildM_many h h2).1, by simp, by simp, by simp, by simp⟩
  · exact ⟨[], [], 0, (buildM_bad h).1, by simp, by simp, by simp, by simp⟩
theorem c_modelbuilds (r : Reg) (k : Int) : PCall Tryz.prog 3 [ag r.cells, vint .i64 k] (fun a => a = vbool true) := by
  have h1 := optionsV_len (r := r) (k := k)
  have hO := c_Options r k
  have hR := c_rOptions r k
  have hB := c_build r
  have hC := c_rbuild r
  obtain ⟨L, P, n, e, hb⟩ := buildM_eq r
  have hS := c_same L P n hb
  rw [← e] at hS
  have hP := c_samePlaces (optionsV r k).1 h1
  generalize (optionsV r k).1 = A at *
  generalize (optionsV r k).2 = E at *
  generalize buildM r = M at *
  generalize buildX r = X at *
  refine acall_of tok mixed 68 rfl (fn := Tryz.f3) (c := Tryz.f3.body.getD .skip) (by kernel_rfl) (by kernel_rfl) (by kernel_rfl) rfl 0 rfl ?_
  repeat' (first | ((change vcFun _ _ _ _ _; refine call_frz rfl (by repeat' (first | trivial | refine And.intro ?_ ?_ | (show 0 + _ ≤ List.length _; simp))) ALeL.refl hO ?_; rintro r rfl)) | ((change vcFun _ _ _ _ _; refine call_frz rfl (by repeat' (first | trivial | refine And.intro ?_ ?_ | (show 0 + _ ≤ List.length _; simp))) ALeL.refl hR ?_; rintro r rfl)) | ((change vcFun _ _ _ _ _; refine call_frz rfl (by repeat' (first | trivial | refine And.intro ?_ ?_ | (show 0 + _ ≤ List.length _; simp))) ALeL.refl hB ?_; rintro r rfl)) | ((change vcFun _ _ _ _ _; refine call_frz rfl (by repeat' (first | trivial | refine And.intro ?_ ?_ | (show 0 + _ ≤ List.length _; simp))) ALeL.refl hC ?_; rintro r rfl)) | refine o1 ?_ | refine o2 ?_ | refine k1 ?_ | refine k2 ?_ | refine k3 ?_ | refine k6 ?_ | refine k7 ?_ | refine And.intro ?_ ?_ | (intro h; first | exact Bool.noConfusion h | exact nz _ h | exact nl h | (simp at h; done) | (simp at h; first | (exfalso; omega) | skip) | skip) | (change retOk _ _ _ _; refine ret_pure rfl trivial ?_) | exact (by kernel_rfl : drawOk _ _ = true) | refine eqv_len_map ?_ | (change vcFun _ _ _ _ _; refine call_eq rfl (by repeat' (first | trivial | refine And.intro ?_ ?_ | (show 0 + _ ≤ List.length _; simp))) ALeL.refl (awake_ok) rfl ?_) | (change vcFun _ _ _ _ _; refine call_eq rfl (by repeat' (first | trivial | refine And.intro ?_ ?_ | (show 0 + _ ≤ List.length _; simp))) ALeL.refl (hP) rfl ?_) | (change vcFun _ _ _ _ _; refine call_eq rfl (by repeat' (first | trivial | refine And.intro ?_ ?_ | (show 0 + _ ≤ List.length _; simp))) ALeL.refl (hS) rfl ?_) | fail)
  all_goals first
    | rfl
    | (exfalso; simp_all; done)
end Go.Proofs.YtmaambipopgdkaaGreat.Cw

/-
  What laws on registries are handed.
-/
namespace Go.Proofs.YtmaambipopgdkaaGreat.Cw
open Go.Cw Go.Proofs
set_option linter.unusedVariables false
set_option maxRecDepth 100000

theorem in_int {qs : List PV} (h : PTy T 3 qs) : ∃ n : Int, qs = [ei n] ∧ -9223372036854775808 ≤ n ∧ n ≤ 9223372036854775807 := kd_int (by kernel_rfl) h
theorem in_str {qs : List PV} (h : PTy T 9 qs) : ∃ s : Str, qs = [es s] := by
  obtain ⟨s, h, _⟩ := kd_str (by kernel_rfl) h
  exact ⟨s, h⟩
theorem in_int1 {qs : List PV} (h : PTy T 3 qs) : ∃ n : Int, qs = [ei n] := by
  obtain ⟨s, h, _⟩ := in_int h
  exact ⟨s, h⟩
theorem in_strs {qs : List PV} (h : PTy T 28 qs) : ∃ l : List Str, qs = [encStrs l] := by
  obtain ⟨l, h, _⟩ := kd_slice (fun s => [es s]) (fun _ => True) (e := 9) (z := 1) (by kernel_rfl) (fun r hr => by obtain ⟨s, h⟩ := in_str hr; exact ⟨s, h, trivial⟩) h
  exact ⟨l, h⟩
theorem in_ints {qs : List PV} (h : PTy T 24 qs) : ∃ l : List Int, qs = [encInts l] := by
  obtain ⟨l, h, _⟩ := kd_slice (fun s => [ei s]) (fun _ => True) (e := 3) (z := 1) (by kernel_rfl) (fun r hr => by obtain ⟨s, h⟩ := in_int1 hr; exact ⟨s, h, trivial⟩) h
  exact ⟨l, h⟩
theorem in_time {qs : List PV} (h : PTy T 69 qs) : ∃ x : Time, qs = x.row := by
  obtain ⟨_, _, rfl, h1, h⟩ := kd_cons (kd_struct (ts := [3, 3, 3, 3]) (by kernel_rfl) h)
  obtain ⟨_, _, rfl, h2, h⟩ := kd_cons h
  obtain ⟨_, _, rfl, h3, h⟩ := kd_cons h
  obtain ⟨_, _, rfl, h4, h⟩ := kd_cons h
  obtain rfl := kd_nil h
  obtain ⟨a, rfl⟩ := in_int1 h1
  obtain ⟨b, rfl⟩ := in_int1 h2
  obtain ⟨c, rfl⟩ := in_int1 h3
  obtain ⟨d, rfl⟩ := in_int1 h4
  exact ⟨⟨a, b, c, d⟩, rfl⟩
theorem in_times {qs : List PV} (h : PTy T 56 qs) : ∃ l : List Time, qs = [encTimes l] := by
  obtain ⟨l, h, _⟩ := kd_slice Time.row (fun _ => True) (e := 69) (z := 4) (by kernel_rfl) (fun r hr => by obtain ⟨s, h⟩ := in_time hr; exact ⟨s, h, trivial⟩) h
  exact ⟨l, h⟩
theorem in_room {qs : List PV} (h : PTy T 94 qs) : ∃ x : Room, qs = x.row := by
  obtain ⟨_, _, rfl, h1, h⟩ := kd_cons (kd_struct (ts := [9, 9, 3, 28, 56]) (by kernel_rfl) h)
  obtain ⟨_, _, rfl, h2, h⟩ := kd_cons h
  obtain ⟨_, _, rfl, h3, h⟩ := kd_cons h
  obtain ⟨_, _, rfl, h4, h⟩ := kd_cons h
  obtain ⟨_, _, rfl, h5, h⟩ := kd_cons h
  obtain rfl := kd_nil h
  obtain ⟨a, rfl⟩ := in_str h1
  obtain ⟨b, rfl⟩ := in_str h2
  obtain ⟨c, rfl⟩ := in_int1 h3
  obtain ⟨d, rfl⟩ := in_strs h4
  obtain ⟨e, rfl⟩ := in_times h5
  exact ⟨⟨a, b, c, d, e⟩, rfl⟩
theorem in_rooms {qs : List PV} (h : PTy T 27 qs) : ∃ l : List Room, qs = [encRooms l] := by
  obtain ⟨l, h, _⟩ := kd_slice Room.row (fun _ => True) (e := 94) (z := 5) (by kernel_rfl) (fun r hr => by obtain ⟨s, h⟩ := in_room hr; exact ⟨s, h, trivial⟩) h
  exact ⟨l, h⟩
theorem in_rows {qs : List PV} (h : PTy T 24 qs) : ∃ l : List Int, qs = intsRow l := in_ints h
theorem in_rowss {qs : List PV} (h : PTy T 29 qs) : ∃ l : List (List Int), qs = [.sl 1 (l.map intsRow)] := by
  obtain ⟨l, h, _⟩ := kd_slice intsRow (fun _ => True) (e := 24) (z := 1) (by kernel_rfl) (fun r hr => by obtain ⟨s, h⟩ := in_rows hr; exact ⟨s, h, trivial⟩) h
  exact ⟨l, h⟩
theorem in_term {qs : List PV} (h : PTy T 26 qs) : ∃ x : Term, qs = x.row := by
  obtain ⟨_, _, rfl, h1, h⟩ := kd_cons (kd_struct (ts := [3, 3, 24]) (by kernel_rfl) h)
  obtain ⟨_, _, rfl, h2, h⟩ := kd_cons h
  obtain ⟨_, _, rfl, h3, h⟩ := kd_cons h
  obtain rfl := kd_nil h
  obtain ⟨x1, rfl⟩ := in_int1 h1
  obtain ⟨x2, rfl⟩ := in_int1 h2
  obtain ⟨x3, rfl⟩ := in_ints h3
  exact ⟨⟨x1, x2, x3⟩, rfl⟩
theorem in_grid {qs : List PV} (h : PTy T 23 qs) : ∃ x : Grid, qs = x.row := by
  obtain ⟨_, _, rfl, h1, h⟩ := kd_cons (kd_struct (ts := [3, 3, 3, 3]) (by kernel_rfl) h)
  obtain ⟨_, _, rfl, h2, h⟩ := kd_cons h
  obtain ⟨_, _, rfl, h3, h⟩ := kd_cons h
  obtain ⟨_, _, rfl, h4, h⟩ := kd_cons h
  obtain rfl := kd_nil h
  obtain ⟨x1, rfl⟩ := in_int1 h1
  obtain ⟨x2, rfl⟩ := in_int1 h2
  obtain ⟨x3, rfl⟩ := in_int1 h3
  obtain ⟨x4, rfl⟩ := in_int1 h4
  exact ⟨⟨x1, x2, x3, x4⟩, rfl⟩
theorem in_travel {qs : List PV} (h : PTy T 31 qs) : ∃ x : Travel, qs = x.row := by
  obtain ⟨_, _, rfl, h1, h⟩ := kd_cons (kd_struct (ts := [28, 29]) (by kernel_rfl) h)
  obtain ⟨_, _, rfl, h2, h⟩ := kd_cons h
  obtain rfl := kd_nil h
  obtain ⟨x1, rfl⟩ := in_strs h1
  obtain ⟨x2, rfl⟩ := in_rowss h2
  exact ⟨⟨x1, x2⟩, rfl⟩
theorem in_lect {qs : List PV} (h : PTy T 176 qs) : ∃ x : Lecturer, qs = x.row := by
  obtain ⟨_, _, rfl, h1, h⟩ := kd_cons (kd_struct (ts := [9, 56]) (by kernel_rfl) h)
  obtain ⟨_, _, rfl, h2, h⟩ := kd_cons h
  obtain rfl := kd_nil h
  obtain ⟨x1, rfl⟩ := in_str h1
  obtain ⟨x2, rfl⟩ := in_times h2
  exact ⟨⟨x1, x2⟩, rfl⟩
theorem in_lects {qs : List PV} (h : PTy T 32 qs) : ∃ l : List Lecturer, qs = [.sl 2 (l.map Lecturer.row)] := by
  obtain ⟨l, h, _⟩ := kd_slice Lecturer.row (fun _ => True) (e := 176) (z := 2) (by kernel_rfl) (fun r hr => by obtain ⟨s, h⟩ := in_lect hr; exact ⟨s, h, trivial⟩) h
  exact ⟨l, h⟩
theorem in_start {qs : List PV} (h : PTy T 244 qs) : ∃ x : Start, qs = x.row := by
  obtain ⟨_, _, rfl, h1, h⟩ := kd_cons (kd_struct (ts := [3, 3]) (by kernel_rfl) h)
  obtain ⟨_, _, rfl, h2, h⟩ := kd_cons h
  obtain rfl := kd_nil h
  obtain ⟨x1, rfl⟩ := in_int1 h1
  obtain ⟨x2, rfl⟩ := in_int1 h2
  exact ⟨⟨x1, x2⟩, rfl⟩
theorem in_starts {qs : List PV} (h : PTy T 96 qs) : ∃ l : List Start, qs = [.sl 2 (l.map Start.row)] := by
  obtain ⟨l, h, _⟩ := kd_slice Start.row (fun _ => True) (e := 244) (z := 2) (by kernel_rfl) (fun r hr => by obtain ⟨s, h⟩ := in_start hr; exact ⟨s, h, trivial⟩) h
  exact ⟨l, h⟩
theorem in_class {qs : List PV} (h : PTy T 98 qs) : ∃ x : Class, qs = x.row := by
  obtain ⟨_, _, rfl, h1, h⟩ := kd_cons (kd_struct (ts := [9, 9, 9, 3, 24, 3, 28, 28, 96]) (by kernel_rfl) h)
  obtain ⟨_, _, rfl, h2, h⟩ := kd_cons h
  obtain ⟨_, _, rfl, h3, h⟩ := kd_cons h
  obtain ⟨_, _, rfl, h4, h⟩ := kd_cons h
  obtain ⟨_, _, rfl, h5, h⟩ := kd_cons h
  obtain ⟨_, _, rfl, h6, h⟩ := kd_cons h
  obtain ⟨_, _, rfl, h7, h⟩ := kd_cons h
  obtain ⟨_, _, rfl, h8, h⟩ := kd_cons h
  obtain ⟨_, _, rfl, h9, h⟩ := kd_cons h
  obtain rfl := kd_nil h
  obtain ⟨x1, rfl⟩ := in_str h1
  obtain ⟨x2, rfl⟩ := in_str h2
  obtain ⟨x3, rfl⟩ := in_str h3
  obtain ⟨x4, rfl⟩ := in_int1 h4
  obtain ⟨x5, rfl⟩ := in_ints h5
  obtain ⟨x6, rfl⟩ := in_int1 h6
  obtain ⟨x7, rfl⟩ := in_strs h7
  obtain ⟨x8, rfl⟩ := in_strs h8
  obtain ⟨x9, rfl⟩ := in_starts h9
  exact ⟨⟨x1, x2, x3, x4, x5, x6, x7, x8, x9⟩, rfl⟩
theorem in_classs {qs : List PV} (h : PTy T 33 qs) : ∃ l : List Class, qs = [.sl 9 (l.map Class.row)] := by
  obtain ⟨l, h, _⟩ := kd_slice Class.row (fun _ => True) (e := 98) (z := 9) (by kernel_rfl) (fun r hr => by obtain ⟨s, h⟩ := in_class hr; exact ⟨s, h, trivial⟩) h
  exact ⟨l, h⟩
theorem in_curri {qs : List PV} (h : PTy T 148 qs) : ∃ x : Curri, qs = x.row := by
  obtain ⟨_, _, rfl, h1, h⟩ := kd_cons (kd_struct (ts := [9, 28]) (by kernel_rfl) h)
  obtain ⟨_, _, rfl, h2, h⟩ := kd_cons h
  obtain rfl := kd_nil h
  obtain ⟨x1, rfl⟩ := in_str h1
  obtain ⟨x2, rfl⟩ := in_strs h2
  exact ⟨⟨x1, x2⟩, rfl⟩
theorem in_curris {qs : List PV} (h : PTy T 34 qs) : ∃ l : List Curri, qs = [.sl 2 (l.map Curri.row)] := by
  obtain ⟨l, h, _⟩ := kd_slice Curri.row (fun _ => True) (e := 148) (z := 2) (by kernel_rfl) (fun r hr => by obtain ⟨s, h⟩ := in_curri hr; exact ⟨s, h, trivial⟩) h
  exact ⟨l, h⟩
theorem in_req {qs : List PV} (h : PTy T 150 qs) : ∃ x : Req, qs = x.row := by
  obtain ⟨_, _, rfl, h1, h⟩ := kd_cons (kd_struct (ts := [9, 9, 3, 28]) (by kernel_rfl) h)
  obtain ⟨_, _, rfl, h2, h⟩ := kd_cons h
  obtain ⟨_, _, rfl, h3, h⟩ := kd_cons h
  obtain ⟨_, _, rfl, h4, h⟩ := kd_cons h
  obtain rfl := kd_nil h
  obtain ⟨x1, rfl⟩ := in_str h1
  obtain ⟨x2, rfl⟩ := in_str h2
  obtain ⟨x3, rfl⟩ := in_int1 h3
  obtain ⟨x4, rfl⟩ := in_strs h4
  exact ⟨⟨x1, x2, x3, x4⟩, rfl⟩
theorem in_reqs {qs : List PV} (h : PTy T 35 qs) : ∃ l : List Req, qs = [.sl 4 (l.map Req.row)] := by
  obtain ⟨l, h, _⟩ := kd_slice Req.row (fun _ => True) (e := 150) (z := 4) (by kernel_rfl) (fun r hr => by obtain ⟨s, h⟩ := in_req hr; exact ⟨s, h, trivial⟩) h
  exact ⟨l, h⟩
theorem in_reg {qs : List PV} (h : PTy T 37 qs) : ∃ x : Reg, qs = x.cells := by
  obtain ⟨_, _, rfl, h1, h⟩ := kd_cons (kd_struct (ts := [23, 26, 27, 31, 32, 33, 34, 35]) (by kernel_rfl) h)
  obtain ⟨_, _, rfl, h2, h⟩ := kd_cons h
  obtain ⟨_, _, rfl, h3, h⟩ := kd_cons h
  obtain ⟨_, _, rfl, h4, h⟩ := kd_cons h
  obtain ⟨_, _, rfl, h5, h⟩ := kd_cons h
  obtain ⟨_, _, rfl, h6, h⟩ := kd_cons h
  obtain ⟨_, _, rfl, h7, h⟩ := kd_cons h
  obtain ⟨_, _, rfl, h8, h⟩ := kd_cons h
  obtain rfl := kd_nil h
  obtain ⟨x1, rfl⟩ := in_grid h1
  obtain ⟨x2, rfl⟩ := in_term h2
  obtain ⟨x3, rfl⟩ := in_rooms h3
  obtain ⟨x4, rfl⟩ := in_travel h4
  obtain ⟨x5, rfl⟩ := in_lects h5
  obtain ⟨x6, rfl⟩ := in_classs h6
  obtain ⟨x7, rfl⟩ := in_curris h7
  obtain ⟨x8, rfl⟩ := in_reqs h8
  exact ⟨⟨x1, x2, x3, x4, x5, x6, x7, x8⟩, rfl⟩
theorem args_reg {ts : List TypeId} {al : List AV} (h : ArgsOk T (37 :: ts) al) : ∃ (x : Reg) (al' : _), al = ag x.cells :: al' ∧ ArgsOk T ts al' := by
  obtain ⟨qs, al', rfl, h1, h2⟩ := args_agg (by kernel_rfl) h
  obtain ⟨x, rfl⟩ := in_reg h1
  exact ⟨x, al', rfl, h2⟩
theorem args_int {ts : List TypeId} {al : List AV} (h : ArgsOk T (3 :: ts) al) : ∃ (n : Int) (al' : _), al = vint .i64 n :: al' ∧ -9223372036854775808 ≤ n ∧ n ≤ 9223372036854775807 ∧ ArgsOk T ts al' := by
  obtain ⟨q, al', rfl, h1, h2⟩ := args_one (by kernel_rfl) h
  obtain ⟨n, h, hlo, hhi⟩ := in_int h1
  injection h with h; subst h
  exact ⟨n, al', rfl, hlo, hhi, h2⟩
end Go.Proofs.YtmaambipopgdkaaGreat.Cw
