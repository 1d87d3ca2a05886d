/-
  Part 10 of the proof (AwakeV, RM4, V9, A3, A5): what later parts use. No conditions.
-/
import Derived.Test.YtmaambipopgdkaaGreatMZ9

/-
  Three classes at one time overlap three times: run.
-/
namespace Go.Proofs.YtmaambipopgdkaaGreat.Cw
open Go.Cw Go.Proofs
def aN : PV := .val (.slice none 0 0)
def aI (n : Int) : PV := .val (.int .i64 n)
def aS (l : List UInt8) : PV := .val (.string (ByteArray.mk (Array.mk l)))
def aK (x : UInt8) : List PV := [aS [99, x], aS [65], aS [80, x], aI 1, .sl 1 [[aI 15]], aI 0, .sl 1 [], .sl 1 [], .sl 2 []]
def aR : List PV := [aI 5, aI 10, aI 480, aI 45, aI 2, aI 4, .sl 1 [], .sl 5 [], .sl 1 [], .sl 1 [], .sl 2 [], .sl 9 [aK 49, aK 50, aK 51], .sl 2 [], .sl 4 []]
def aU : List PV := [aS [117], aI 0, aI 1, aI 1, aS [], aN, aI 0, aS [], aN, aI 0, aN, aN, aI 0]
def aP : List (List PV) := [[aI 15, aI 1, aI 2, aI 1, aI 0], [aI 15, aI 1, aI 2, aI 1, aI 0], [aI 15, aI 1, aI 2, aI 1, aI (-1)]]
theorem c_violA : PCall Tryz.prog 17 [.agg (pvs aR), .agg (pvs aU), .pv (.sl 5 aP)] (fun r => r = .tup [vint .i64 3, vint .i64 0]) := by
  have h : exFun T F 100000 20 17 [.agg (pvs aR), .agg (pvs aU), .pv (.sl 5 aP)] [] = some (.tup [vint .i64 3, vint .i64 0], []) := by kernel_rfl
  exact (exFun_ok tok fok mixed 100000 20 17 [.agg (pvs aR), .agg (pvs aU), .pv (.sl 5 aP)] [] _ _ h).mono fun r H' e => ⟨e.2, e.1⟩
end Go.Proofs.YtmaambipopgdkaaGreat.Cw

/-
  The example with which each law of chapter 16 begins: it answers true.
-/
namespace Go.Proofs.YtmaambipopgdkaaGreat.Cw
open Go.Cw Go.Proofs
set_option linter.unusedVariables false
set_option maxRecDepth 100000
set_option maxHeartbeats 8000000
theorem aR_eq : ag sR.cells = .agg (pvs aR) := rfl
theorem awake_rules : PCall Tryz.prog 16 [] (fun a => a = vbool true) := by
  have h1 := c_sample
  rw [aR_eq] at h1
  have h2 := c_violA
  refine acall_of tok mixed 27 rfl (fn := Tryz.f16) (c := Tryz.f16.body.getD .skip) (by kernel_rfl) (by kernel_rfl) (by kernel_rfl) rfl 0 rfl ?_
  repeat' (first | ((change vcFunD _ _ _ _ _; refine callD_eq rfl (by repeat' (first | trivial | refine And.intro ?_ ?_ | (show 0 + _ ≤ List.length _; simp))) ALeL.refl h1 rfl ?_)) | ((change vcFunD _ _ _ _ _; refine callD_eq rfl (by repeat' (first | trivial | refine And.intro ?_ ?_ | (show 0 + _ ≤ List.length _; simp))) ALeL.refl h2 rfl ?_)) | refine o1 ?_ | refine o2 ?_ | refine k1 ?_ | refine k2 ?_ | refine k7 ?_ | refine And.intro ?_ ?_ | refine o3 ?_ | refine o4 ?_ | (intro h; first | exact Bool.noConfusion h | exact nz _ h | exact nl h | (simp at h; done) | (simp at h; first | (exfalso; omega) | skip) | skip) | (change retOk _ _ _ _; refine ret_pure rfl trivial ?_) | exact (by kernel_rfl : drawOk _ _ = true) | fail)
  rfl
end Go.Proofs.YtmaambipopgdkaaGreat.Cw

/-
  The law RulesExact.
-/
namespace Go.Proofs.YtmaambipopgdkaaGreat.Cw
open Go Go.Cw Go.Proofs
set_option linter.unusedVariables false
set_option maxRecDepth 100000
set_option maxHeartbeats 8000000
noncomputable def vioE (r : Reg) (u : Rule) (p : List Placed) : Int := if chkE r u = 0 then (if p.length = r.classes.length then 0 else 17) else chkE r u
noncomputable def vioA (r : Reg) (u : Rule) (p : List Placed) : Int := if chkE r u = 0 then (if p.length = r.classes.length then vioN r u (closeV r.travel) (memB r u.first) (newS r u) p else 0) else 0
theorem chk_z {r : Reg} {u : Rule} (h : chkE r u = 0) : regE r = 0 ∧ newE r u = 0 ∧ ruleE u r.grid r.term.weeks = 0 ∧ selE r u.first = 0 ∧ (u.kind = 6 → selE r u.second = 0) := by
  unfold chkE at h
  split at h
  · rename_i hr
    refine ⟨hr, h, ?_⟩
    unfold newE at h
    (repeat' split at h) <;> first | omega | skip
    all_goals exact ⟨by omega, by omega, fun h6 => Classical.byContradiction fun h7 => by simp_all⟩
  · omega
theorem c_vio (r : Reg) (u : Rule) (p : List Placed) (hu : RuleL u) : PCall Tryz.prog 17 [ag r.cells, ag u.row, .pv (.sl 5 (p.map Placed.row))] (fun v => v = .tup [vint .i64 (vioA r u p), vint .i64 (vioE r u p)]) := by
  have h1 := c_checked r u (closeV r.travel) hu fun h _ => c_tclose r.travel (reg_trav h)
  unfold vioA vioE
  by_cases h : chkE r u = 0
  · obtain ⟨hr, hne, hru, hs1, hs2⟩ := chk_z h
    obtain ⟨l1, l2, -, -, l3, l4, -, -⟩ := rule_len hru
    have hP : chkP r u (closeV r.travel) = .ia (judgeC r u (memB r u.first) (newS r u) (newW r u (closeV r.travel))) := by unfold chkP newP; rw [if_pos hr, if_pos hne]
    rw [h, hP] at h1
    rw [if_pos h, if_pos h]
    have e : vioN r u (newW r u (closeV r.travel)) (memB r u.first) (newS r u) p = vioN r u (closeV r.travel) (memB r u.first) (newS r u) p := by
      by_cases h12 : u.kind = 12
      · unfold newW; rw [if_pos h12]
      · exact vioN_W h12
    have h2 := c_viol0 r u (newW r u (closeV r.travel)) (memB r u.first) (newS r u) p (by
      unfold newW
      split
      · exact way_close (reg_trav hr)
      · exact ⟨Nat.zero_le _, Nat.zero_le _, fun x hx => by cases hx⟩) (List.length_map _) (fun h6 => by unfold newS; rw [if_pos h6]; exact List.length_map _) (reg_cls hr) ⟨l3, l4⟩ (by omega) (by omega) h1
    rw [e] at h2
    exact h2
  · have hP : chkP r u (closeV r.travel) = .val (.pointer none) := by
      unfold chkP newP
      split
      · rename_i hr
        exact if_neg fun hn => h (by unfold chkE; rw [if_pos hr]; exact hn)
      · rfl
    rw [hP] at h1
    rw [if_neg h, if_neg h]
    generalize chkE r u = CE at *
    refine acall_of tok mixed 69 rfl (fn := Tryz.f17) (c := Tryz.f17.body.getD .skip) (by kernel_rfl) (by kernel_rfl) (by kernel_rfl) rfl 0 rfl ?_
    repeat' (first | ((change vcFun _ _ _ _ _; refine call_frz rfl (by repeat' (first | trivial | refine And.intro ?_ ?_ | (show 0 + _ ≤ List.length _; simp))) ALeL.refl h1 ?_; rintro _ rfl)) | refine o1 ?_ | refine o2 ?_ | refine k1 ?_ | refine k2 ?_ | refine k3 ?_ | refine k4 ?_ | refine k7 ?_ | refine And.intro ?_ ?_ | (intro h; first | exact Bool.noConfusion h | exact nz _ h | exact nl h | (simp at h; done) | (simp at h; first | (exfalso; omega) | skip) | skip) | (change retOk _ _ _ _; refine ret_pure rfl trivial ?_) | fail)
    all_goals first
      | rfl
      | exact absurd (by assumption) h
theorem c_rvio (r : Reg) (u : Rule) (p : List Placed) (hu : RuleL u) : PCall Tryz.prog 18 [ag r.cells, ag u.row, .pv (.sl 5 (p.map Placed.row))] (fun v => v = .tup [vint .i64 (vioA r u p), vint .i64 (vioE r u p)]) := by
  have h1 := c_rchk r u hu
  unfold vioA vioE
  by_cases h : chkE r u = 0
  · obtain ⟨hr, hne, hru, hs1, hs2⟩ := chk_z h
    obtain ⟨l1, l2, -, -, l3, l4, -, -⟩ := rule_len hru
    rw [h] at h1
    rw [if_pos h, if_pos h]
    by_cases hp : p.length = r.classes.length
    · rw [if_pos hp, if_pos hp]
      exact c_rviol0 r u (closeV r.travel) (clsL r u.first) (listS r u) (memB r u.first) (newS r u) p (way_close (reg_trav hr)) (list_ok hr hs1 hs2) hp (reg_cls hr) ⟨l3, l4⟩ (by omega) (by omega) h1 (c_lists r u hu hr hs1 hs2)
    · rw [if_neg hp, if_neg hp]
      refine acall_of tok mixed 135 rfl (fn := Tryz.f18) (c := Tryz.f18.body.getD .skip) (by kernel_rfl) (by kernel_rfl) (by kernel_rfl) rfl 0 rfl ?_
      repeat' (first | refine o1 ?_ | refine o2 ?_ | refine k1 ?_ | refine k2 ?_ | refine k3 ?_ | refine k6 ?_ | refine k7 ?_ | refine And.intro ?_ ?_ | (intro h; first | exact Bool.noConfusion h | exact nz _ h | exact nl h | (simp at h; done) | (simp at h; first | (exfalso; omega) | skip) | skip) | (change retOk _ _ _ _; refine ret_pure rfl trivial ?_) | refine eqv_len_map ?_ | (change vcFun _ _ _ _ _; refine call_eq rfl (by repeat' (first | trivial | refine And.intro ?_ ?_ | (show 0 + _ ≤ List.length _; simp))) ALeL.refl (h1) rfl ?_) | fail)
      rfl
  · rw [if_neg h, if_neg h]
    generalize chkE r u = CE at *
    refine acall_of tok mixed 135 rfl (fn := Tryz.f18) (c := Tryz.f18.body.getD .skip) (by kernel_rfl) (by kernel_rfl) (by kernel_rfl) rfl 0 rfl ?_
    repeat' (first | refine o1 ?_ | refine o2 ?_ | refine k1 ?_ | refine k2 ?_ | refine k3 ?_ | refine k7 ?_ | refine And.intro ?_ ?_ | (intro h; first | exact Bool.noConfusion h | exact nz _ h | exact nl h | (simp at h; done) | (simp at h; first | (exfalso; omega) | skip) | skip) | (change retOk _ _ _ _; refine ret_pure rfl trivial ?_) | (change vcFun _ _ _ _ _; refine call_eq rfl (by repeat' (first | trivial | refine And.intro ?_ ?_ | (show 0 + _ ≤ List.length _; simp))) ALeL.refl (h1) rfl ?_) | fail)
    all_goals first
      | rfl
      | exact absurd (by assumption) h
theorem c_heavy (r : Reg) (u : Rule) (hu : RuleL u) : ∃ b, PCall Tryz.prog 15 [ag r.cells, ag u.row] (fun v => v = vbool b) := by
  have h1 := c_Depth u.first hu.first
  have h2 := c_Depth u.second hu.second
  rw [row_cells] at h1 h2
  generalize ((min 101 (dep u.first) : Nat) : Int) = D1 at *
  generalize ((min 101 (dep u.second) : Nat) : Int) = D2 at *
  refine ⟨decide ((r.classes.length : Int) > 40) || decide ((r.travel.blds.length : Int) > 20) || decide ((u.first.kids.length : Int) > 40) || decide (D1 > 20) || decide (D2 > 20), ?_⟩
  refine acall_of tok mixed 35 rfl (fn := Tryz.f15) (c := Tryz.f15.body.getD .skip) (by kernel_rfl) (by kernel_rfl) (by kernel_rfl) rfl 0 rfl ?_
  repeat' (first | refine o1 ?_ | refine o2 ?_ | refine k1 ?_ | refine k2 ?_ | refine k7 ?_ | refine And.intro ?_ ?_ | (intro h; first | exact Bool.noConfusion h | exact nz _ h | exact nl h | (simp at h; done) | (simp at h; first | (exfalso; omega) | skip) | skip) | (change retOk _ _ _ _; refine ret_pure rfl trivial ?_) | refine eqv_len_map ?_ | (change vcFun _ _ _ _ _; refine call_eq rfl (by repeat' (first | trivial | refine And.intro ?_ ?_ | (show 0 + _ ≤ List.length _; simp))) ALeL.refl (h1) rfl ?_) | (change vcFun _ _ _ _ _; refine call_eq rfl (by repeat' (first | trivial | refine And.intro ?_ ?_ | (show 0 + _ ≤ List.length _; simp))) ALeL.refl (h2) rfl ?_) | fail)
  all_goals
    refine congrArg vbool ?_
    first
      | (simp [*]; done)
      | (simp; omega)
theorem c_rexact (r : Reg) (u : Rule) (p : List Placed) (hu : RuleL u) : PCall Tryz.prog 4 [ag r.cells, ag u.row, .pv (.sl 5 (p.map Placed.row))] (fun v => v = vbool true) := by
  obtain ⟨b, h0⟩ := c_heavy r u hu
  have ha := awake_rules
  have h1 := c_vio r u p hu
  have h2 := c_rvio r u p hu
  have h3 := c_chk r u (closeV r.travel) hu fun h _ => c_tclose r.travel (reg_trav h)
  have h4 := c_rchk r u hu
  generalize vioA r u p = A at *
  generalize vioE r u p = E at *
  generalize chkE r u = CE at *
  refine acall_of tok mixed 49 rfl (fn := Tryz.f4) (c := Tryz.f4.body.getD .skip) (by kernel_rfl) (by kernel_rfl) (by kernel_rfl) rfl 0 rfl ?_
  repeat' (first | refine o1 ?_ | refine o2 ?_ | refine k1 ?_ | refine k2 ?_ | refine k3 ?_ | refine k6 ?_ | refine k7 ?_ | refine And.intro ?_ ?_ | refine o3 ?_ | refine o4 ?_ | (intro h; first | exact Bool.noConfusion h | exact nz _ h | exact nl h | (simp at h; done) | (simp at h; first | (exfalso; omega) | skip) | skip) | (change retOk _ _ _ _; refine ret_pure rfl trivial ?_) | exact (by kernel_rfl : drawOk _ _ = true) | (change vcFun _ _ _ _ _; refine call_eq rfl (by repeat' (first | trivial | refine And.intro ?_ ?_ | (show 0 + _ ≤ List.length _; simp))) ALeL.refl (h0) rfl ?_) | (change vcFun _ _ _ _ _; refine call_eq rfl (by repeat' (first | trivial | refine And.intro ?_ ?_ | (show 0 + _ ≤ List.length _; simp))) ALeL.refl (ha) rfl ?_) | (change vcFunD _ _ _ _ _; refine callD_eq rfl (by repeat' (first | trivial | refine And.intro ?_ ?_ | (show 0 + _ ≤ List.length _; simp))) ALeL.refl (ha) rfl ?_) | (change vcFun _ _ _ _ _; refine call_eq rfl (by repeat' (first | trivial | refine And.intro ?_ ?_ | (show 0 + _ ≤ List.length _; simp))) ALeL.refl (h1) rfl ?_) | (change vcFun _ _ _ _ _; refine call_eq rfl (by repeat' (first | trivial | refine And.intro ?_ ?_ | (show 0 + _ ≤ List.length _; simp))) ALeL.refl (h2) rfl ?_) | (change vcFunD _ _ _ _ _; refine callD_eq rfl (by repeat' (first | trivial | refine And.intro ?_ ?_ | (show 0 + _ ≤ List.length _; simp))) ALeL.refl (h3) rfl ?_) | (change vcFunD _ _ _ _ _; refine callD_eq rfl (by repeat' (first | trivial | refine And.intro ?_ ?_ | (show 0 + _ ≤ List.length _; simp))) ALeL.refl (h4) rfl ?_) | fail)
  all_goals first
    | rfl
    | exact congrArg vbool (beq_self_eq_true _)
end Go.Proofs.YtmaambipopgdkaaGreat.Cw

/-
  What laws on registries are handed.
-/
namespace Go.Proofs.YtmaambipopgdkaaGreat.Cw
open Go.Cw Go.Proofs
set_option linter.unusedVariables false
set_option maxRecDepth 100000

theorem in_int {qs : List PV} (h : PTy T 3 qs) : ∃ n : Int, qs = [ei n] ∧ -9223372036854775808 ≤ n ∧ n ≤ 9223372036854775807 := kd_int (by kernel_rfl) h
theorem in_str {qs : List PV} (h : PTy T 9 qs) : ∃ s : Str, qs = [es s] := by
  obtain ⟨s, h, _⟩ := kd_str (by kernel_rfl) h
  exact ⟨s, h⟩
theorem in_int1 {qs : List PV} (h : PTy T 3 qs) : ∃ n : Int, qs = [ei n] := by
  obtain ⟨s, h, _⟩ := in_int h
  exact ⟨s, h⟩
theorem in_strs {qs : List PV} (h : PTy T 28 qs) : ∃ l : List Str, qs = [encStrs l] := by
  obtain ⟨l, h, _⟩ := kd_slice (fun s => [es s]) (fun _ => True) (e := 9) (z := 1) (by kernel_rfl) (fun r hr => by obtain ⟨s, h⟩ := in_str hr; exact ⟨s, h, trivial⟩) h
  exact ⟨l, h⟩
theorem in_ints {qs : List PV} (h : PTy T 24 qs) : ∃ l : List Int, qs = [encInts l] := by
  obtain ⟨l, h, _⟩ := kd_slice (fun s => [ei s]) (fun _ => True) (e := 3) (z := 1) (by kernel_rfl) (fun r hr => by obtain ⟨s, h⟩ := in_int1 hr; exact ⟨s, h, trivial⟩) h
  exact ⟨l, h⟩
theorem in_time {qs : List PV} (h : PTy T 69 qs) : ∃ x : Time, qs = x.row := by
  obtain ⟨_, _, rfl, h1, h⟩ := kd_cons (kd_struct (ts := [3, 3, 3, 3]) (by kernel_rfl) h)
  obtain ⟨_, _, rfl, h2, h⟩ := kd_cons h
  obtain ⟨_, _, rfl, h3, h⟩ := kd_cons h
  obtain ⟨_, _, rfl, h4, h⟩ := kd_cons h
  obtain rfl := kd_nil h
  obtain ⟨a, rfl⟩ := in_int1 h1
  obtain ⟨b, rfl⟩ := in_int1 h2
  obtain ⟨c, rfl⟩ := in_int1 h3
  obtain ⟨d, rfl⟩ := in_int1 h4
  exact ⟨⟨a, b, c, d⟩, rfl⟩
theorem in_times {qs : List PV} (h : PTy T 56 qs) : ∃ l : List Time, qs = [encTimes l] := by
  obtain ⟨l, h, _⟩ := kd_slice Time.row (fun _ => True) (e := 69) (z := 4) (by kernel_rfl) (fun r hr => by obtain ⟨s, h⟩ := in_time hr; exact ⟨s, h, trivial⟩) h
  exact ⟨l, h⟩
theorem in_room {qs : List PV} (h : PTy T 94 qs) : ∃ x : Room, qs = x.row := by
  obtain ⟨_, _, rfl, h1, h⟩ := kd_cons (kd_struct (ts := [9, 9, 3, 28, 56]) (by kernel_rfl) h)
  obtain ⟨_, _, rfl, h2, h⟩ := kd_cons h
  obtain ⟨_, _, rfl, h3, h⟩ := kd_cons h
  obtain ⟨_, _, rfl, h4, h⟩ := kd_cons h
  obtain ⟨_, _, rfl, h5, h⟩ := kd_cons h
  obtain rfl := kd_nil h
  obtain ⟨a, rfl⟩ := in_str h1
  obtain ⟨b, rfl⟩ := in_str h2
  obtain ⟨c, rfl⟩ := in_int1 h3
  obtain ⟨d, rfl⟩ := in_strs h4
  obtain ⟨e, rfl⟩ := in_times h5
  exact ⟨⟨a, b, c, d, e⟩, rfl⟩
theorem in_rooms {qs : List PV} (h : PTy T 27 qs) : ∃ l : List Room, qs = [encRooms l] := by
  obtain ⟨l, h, _⟩ := kd_slice Room.row (fun _ => True) (e := 94) (z := 5) (by kernel_rfl) (fun r hr => by obtain ⟨s, h⟩ := in_room hr; exact ⟨s, h, trivial⟩) h
  exact ⟨l, h⟩
theorem in_rows {qs : List PV} (h : PTy T 24 qs) : ∃ l : List Int, qs = intsRow l := in_ints h
theorem in_rowss {qs : List PV} (h : PTy T 29 qs) : ∃ l : List (List Int), qs = [.sl 1 (l.map intsRow)] := by
  obtain ⟨l, h, _⟩ := kd_slice intsRow (fun _ => True) (e := 24) (z := 1) (by kernel_rfl) (fun r hr => by obtain ⟨s, h⟩ := in_rows hr; exact ⟨s, h, trivial⟩) h
  exact ⟨l, h⟩
theorem in_term {qs : List PV} (h : PTy T 26 qs) : ∃ x : Term, qs = x.row := by
  obtain ⟨_, _, rfl, h1, h⟩ := kd_cons (kd_struct (ts := [3, 3, 24]) (by kernel_rfl) h)
  obtain ⟨_, _, rfl, h2, h⟩ := kd_cons h
  obtain ⟨_, _, rfl, h3, h⟩ := kd_cons h
  obtain rfl := kd_nil h
  obtain ⟨x1, rfl⟩ := in_int1 h1
  obtain ⟨x2, rfl⟩ := in_int1 h2
  obtain ⟨x3, rfl⟩ := in_ints h3
  exact ⟨⟨x1, x2, x3⟩, rfl⟩
theorem in_grid {qs : List PV} (h : PTy T 23 qs) : ∃ x : Grid, qs = x.row := by
  obtain ⟨_, _, rfl, h1, h⟩ := kd_cons (kd_struct (ts := [3, 3, 3, 3]) (by kernel_rfl) h)
  obtain ⟨_, _, rfl, h2, h⟩ := kd_cons h
  obtain ⟨_, _, rfl, h3, h⟩ := kd_cons h
  obtain ⟨_, _, rfl, h4, h⟩ := kd_cons h
  obtain rfl := kd_nil h
  obtain ⟨x1, rfl⟩ := in_int1 h1
  obtain ⟨x2, rfl⟩ := in_int1 h2
  obtain ⟨x3, rfl⟩ := in_int1 h3
  obtain ⟨x4, rfl⟩ := in_int1 h4
  exact ⟨⟨x1, x2, x3, x4⟩, rfl⟩
theorem in_travel {qs : List PV} (h : PTy T 31 qs) : ∃ x : Travel, qs = x.row := by
  obtain ⟨_, _, rfl, h1, h⟩ := kd_cons (kd_struct (ts := [28, 29]) (by kernel_rfl) h)
  obtain ⟨_, _, rfl, h2, h⟩ := kd_cons h
  obtain rfl := kd_nil h
  obtain ⟨x1, rfl⟩ := in_strs h1
  obtain ⟨x2, rfl⟩ := in_rowss h2
  exact ⟨⟨x1, x2⟩, rfl⟩
theorem in_lect {qs : List PV} (h : PTy T 176 qs) : ∃ x : Lecturer, qs = x.row := by
  obtain ⟨_, _, rfl, h1, h⟩ := kd_cons (kd_struct (ts := [9, 56]) (by kernel_rfl) h)
  obtain ⟨_, _, rfl, h2, h⟩ := kd_cons h
  obtain rfl := kd_nil h
  obtain ⟨x1, rfl⟩ := in_str h1
  obtain ⟨x2, rfl⟩ := in_times h2
  exact ⟨⟨x1, x2⟩, rfl⟩
theorem in_lects {qs : List PV} (h : PTy T 32 qs) : ∃ l : List Lecturer, qs = [.sl 2 (l.map Lecturer.row)] := by
  obtain ⟨l, h, _⟩ := kd_slice Lecturer.row (fun _ => True) (e := 176) (z := 2) (by kernel_rfl) (fun r hr => by obtain ⟨s, h⟩ := in_lect hr; exact ⟨s, h, trivial⟩) h
  exact ⟨l, h⟩
theorem in_start {qs : List PV} (h : PTy T 244 qs) : ∃ x : Start, qs = x.row := by
  obtain ⟨_, _, rfl, h1, h⟩ := kd_cons (kd_struct (ts := [3, 3]) (by kernel_rfl) h)
  obtain ⟨_, _, rfl, h2, h⟩ := kd_cons h
  obtain rfl := kd_nil h
  obtain ⟨x1, rfl⟩ := in_int1 h1
  obtain ⟨x2, rfl⟩ := in_int1 h2
  exact ⟨⟨x1, x2⟩, rfl⟩
theorem in_starts {qs : List PV} (h : PTy T 96 qs) : ∃ l : List Start, qs = [.sl 2 (l.map Start.row)] := by
  obtain ⟨l, h, _⟩ := kd_slice Start.row (fun _ => True) (e := 244) (z := 2) (by kernel_rfl) (fun r hr => by obtain ⟨s, h⟩ := in_start hr; exact ⟨s, h, trivial⟩) h
  exact ⟨l, h⟩
theorem in_class {qs : List PV} (h : PTy T 98 qs) : ∃ x : Class, qs = x.row := by
  obtain ⟨_, _, rfl, h1, h⟩ := kd_cons (kd_struct (ts := [9, 9, 9, 3, 24, 3, 28, 28, 96]) (by kernel_rfl) h)
  obtain ⟨_, _, rfl, h2, h⟩ := kd_cons h
  obtain ⟨_, _, rfl, h3, h⟩ := kd_cons h
  obtain ⟨_, _, rfl, h4, h⟩ := kd_cons h
  obtain ⟨_, _, rfl, h5, h⟩ := kd_cons h
  obtain ⟨_, _, rfl, h6, h⟩ := kd_cons h
  obtain ⟨_, _, rfl, h7, h⟩ := kd_cons h
  obtain ⟨_, _, rfl, h8, h⟩ := kd_cons h
  obtain ⟨_, _, rfl, h9, h⟩ := kd_cons h
  obtain rfl := kd_nil h
  obtain ⟨x1, rfl⟩ := in_str h1
  obtain ⟨x2, rfl⟩ := in_str h2
  obtain ⟨x3, rfl⟩ := in_str h3
  obtain ⟨x4, rfl⟩ := in_int1 h4
  obtain ⟨x5, rfl⟩ := in_ints h5
  obtain ⟨x6, rfl⟩ := in_int1 h6
  obtain ⟨x7, rfl⟩ := in_strs h7
  obtain ⟨x8, rfl⟩ := in_strs h8
  obtain ⟨x9, rfl⟩ := in_starts h9
  exact ⟨⟨x1, x2, x3, x4, x5, x6, x7, x8, x9⟩, rfl⟩
theorem in_classs {qs : List PV} (h : PTy T 33 qs) : ∃ l : List Class, qs = [.sl 9 (l.map Class.row)] := by
  obtain ⟨l, h, _⟩ := kd_slice Class.row (fun _ => True) (e := 98) (z := 9) (by kernel_rfl) (fun r hr => by obtain ⟨s, h⟩ := in_class hr; exact ⟨s, h, trivial⟩) h
  exact ⟨l, h⟩
theorem in_curri {qs : List PV} (h : PTy T 148 qs) : ∃ x : Curri, qs = x.row := by
  obtain ⟨_, _, rfl, h1, h⟩ := kd_cons (kd_struct (ts := [9, 28]) (by kernel_rfl) h)
  obtain ⟨_, _, rfl, h2, h⟩ := kd_cons h
  obtain rfl := kd_nil h
  obtain ⟨x1, rfl⟩ := in_str h1
  obtain ⟨x2, rfl⟩ := in_strs h2
  exact ⟨⟨x1, x2⟩, rfl⟩
theorem in_curris {qs : List PV} (h : PTy T 34 qs) : ∃ l : List Curri, qs = [.sl 2 (l.map Curri.row)] := by
  obtain ⟨l, h, _⟩ := kd_slice Curri.row (fun _ => True) (e := 148) (z := 2) (by kernel_rfl) (fun r hr => by obtain ⟨s, h⟩ := in_curri hr; exact ⟨s, h, trivial⟩) h
  exact ⟨l, h⟩
theorem in_req {qs : List PV} (h : PTy T 150 qs) : ∃ x : Req, qs = x.row := by
  obtain ⟨_, _, rfl, h1, h⟩ := kd_cons (kd_struct (ts := [9, 9, 3, 28]) (by kernel_rfl) h)
  obtain ⟨_, _, rfl, h2, h⟩ := kd_cons h
  obtain ⟨_, _, rfl, h3, h⟩ := kd_cons h
  obtain ⟨_, _, rfl, h4, h⟩ := kd_cons h
  obtain rfl := kd_nil h
  obtain ⟨x1, rfl⟩ := in_str h1
  obtain ⟨x2, rfl⟩ := in_str h2
  obtain ⟨x3, rfl⟩ := in_int1 h3
  obtain ⟨x4, rfl⟩ := in_strs h4
  exact ⟨⟨x1, x2, x3, x4⟩, rfl⟩
theorem in_reqs {qs : List PV} (h : PTy T 35 qs) : ∃ l : List Req, qs = [.sl 4 (l.map Req.row)] := by
  obtain ⟨l, h, _⟩ := kd_slice Req.row (fun _ => True) (e := 150) (z := 4) (by kernel_rfl) (fun r hr => by obtain ⟨s, h⟩ := in_req hr; exact ⟨s, h, trivial⟩) h
  exact ⟨l, h⟩
theorem in_reg {qs : List PV} (h : PTy T 37 qs) : ∃ x : Reg, qs = x.cells := by
  obtain ⟨_, _, rfl, h1, h⟩ := kd_cons (kd_struct (ts := [23, 26, 27, 31, 32, 33, 34, 35]) (by kernel_rfl) h)
  obtain ⟨_, _, rfl, h2, h⟩ := kd_cons h
  obtain ⟨_, _, rfl, h3, h⟩ := kd_cons h
  obtain ⟨_, _, rfl, h4, h⟩ := kd_cons h
  obtain ⟨_, _, rfl, h5, h⟩ := kd_cons h
  obtain ⟨_, _, rfl, h6, h⟩ := kd_cons h
  obtain ⟨_, _, rfl, h7, h⟩ := kd_cons h
  obtain ⟨_, _, rfl, h8, h⟩ := kd_cons h
  obtain rfl := kd_nil h
  obtain ⟨x1, rfl⟩ := in_grid h1
  obtain ⟨x2, rfl⟩ := in_term h2
  obtain ⟨x3, rfl⟩ := in_rooms h3
  obtain ⟨x4, rfl⟩ := in_travel h4
  obtain ⟨x5, rfl⟩ := in_lects h5
  obtain ⟨x6, rfl⟩ := in_classs h6
  obtain ⟨x7, rfl⟩ := in_curris h7
  obtain ⟨x8, rfl⟩ := in_reqs h8
  exact ⟨⟨x1, x2, x3, x4, x5, x6, x7, x8⟩, rfl⟩
theorem args_reg {ts : List TypeId} {al : List AV} (h : ArgsOk T (37 :: ts) al) : ∃ (x : Reg) (al' : _), al = ag x.cells :: al' ∧ ArgsOk T ts al' := by
  obtain ⟨qs, al', rfl, h1, h2⟩ := args_agg (by kernel_rfl) h
  obtain ⟨x, rfl⟩ := in_reg h1
  exact ⟨x, al', rfl, h2⟩
end Go.Proofs.YtmaambipopgdkaaGreat.Cw

/-
  What a law on rules is handed: a registry, a rule, places.
-/
namespace Go.Proofs.YtmaambipopgdkaaGreat.Cw
open Go.Cw Go.Proofs
set_option linter.unusedVariables false
set_option maxRecDepth 100000

/-- A slice as its rows, each typed. -/
theorem kd_raw {t e : TypeId} {z : Nat} {qs : List PV} (hk : elemAt T t = some (e, z)) (h : PTy T t qs) : ∃ xs : List (List PV), qs = [.sl z xs] ∧ xs.length ≤ 9223372036854775807 ∧ ∀ r ∈ xs, PTy T e r := by
  obtain ⟨l, h1, h2, h3⟩ := kd_slice (fun r : List PV => r) (fun r => PTy T e r) hk (fun r hr => ⟨r, rfl, hr⟩) h
  exact ⟨l, by simpa using h1, h2, h3⟩
theorem map_all {α β : Type} {f : α → β} {p : α → Prop} : ∀ {l : List β}, (∀ r ∈ l, ∃ a, r = f a ∧ p a) → ∃ m : List α, l = m.map f ∧ ∀ a ∈ m, p a
  | [], _ => ⟨[], rfl, fun a h => by cases h⟩
  | r :: l, h => by
    obtain ⟨a, rfl, ha⟩ := h r (by simp)
    obtain ⟨m, rfl, hm⟩ := map_all (l := l) fun r hr => h r (by simp [hr])
    exact ⟨a :: m, rfl, fun b hb => by
      rcases List.mem_cons.1 hb with rfl | hb
      · exact ha
      · exact hm b hb⟩
theorem in_sel : ∀ (n : Nat) {qs : List PV}, SizeOf.sizeOf qs < n → PTy T 55 qs → ∃ s : Sel, qs = s.row ∧ SelL s
  | 0, _, hn, _ => absurd hn (Nat.not_lt_zero _)
  | n + 1, qs, hn, h => by
    obtain ⟨_, _, rfl, h1, h⟩ := kd_cons (kd_struct (ts := [3, 9, 53]) (by kernel_rfl) h)
    obtain ⟨_, _, rfl, h2, h⟩ := kd_cons h
    obtain ⟨_, _, rfl, h3, h⟩ := kd_cons h
    obtain rfl := kd_nil h
    obtain ⟨x1, rfl⟩ := in_int1 h1
    obtain ⟨x2, rfl⟩ := in_str h2
    obtain ⟨xs, rfl, hl, hx⟩ := kd_raw (e := 55) (z := 3) (by kernel_rfl) h3
    obtain ⟨m, rfl, hm⟩ := map_all (f := Sel.row) (p := SelL) fun r hr => in_sel n (by
      have := List.sizeOf_lt_of_mem hr
      simp at hn
      omega) (hx r hr)
    exact ⟨.mk x1 x2 m, by rw [row_mk]; rfl, .mk (by simpa using hl) hm⟩
theorem in_rule {qs : List PV} (h : PTy T 58 qs) : ∃ u : Rule, qs = u.row ∧ RuleL u := by
  obtain ⟨_, _, rfl, h1, h⟩ := kd_cons (kd_struct (ts := [9, 3, 3, 55, 55, 3, 56, 28, 3]) (by kernel_rfl) h)
  obtain ⟨_, _, rfl, h2, h⟩ := kd_cons h
  obtain ⟨_, _, rfl, h3, h⟩ := kd_cons h
  obtain ⟨_, _, rfl, h4, h⟩ := kd_cons h
  obtain ⟨_, _, rfl, h5, h⟩ := kd_cons h
  obtain ⟨_, _, rfl, h6, h⟩ := kd_cons h
  obtain ⟨_, _, rfl, h7, h⟩ := kd_cons h
  obtain ⟨_, _, rfl, h8, h⟩ := kd_cons h
  obtain ⟨_, _, rfl, h9, h⟩ := kd_cons h
  obtain rfl := kd_nil h
  obtain ⟨x1, rfl⟩ := in_str h1
  obtain ⟨x2, rfl⟩ := in_int1 h2
  obtain ⟨x3, rfl⟩ := in_int1 h3
  obtain ⟨x4, rfl, l4⟩ := in_sel _ (Nat.lt_succ_self _) h4
  obtain ⟨x5, rfl, l5⟩ := in_sel _ (Nat.lt_succ_self _) h5
  obtain ⟨x6, rfl⟩ := in_int1 h6
  obtain ⟨_, h7', b7, -⟩ := kd_slice Time.row (fun _ => True) (e := 69) (z := 4) (by kernel_rfl) (fun r hr => by obtain ⟨s, h⟩ := in_time hr; exact ⟨s, h, trivial⟩) h7
  obtain ⟨_, h8', b8, -⟩ := kd_slice (fun s => [es s]) (fun _ => True) (e := 9) (z := 1) (by kernel_rfl) (fun r hr => by obtain ⟨s, h⟩ := in_str hr; exact ⟨s, h, trivial⟩) h8
  subst h7' h8'
  obtain ⟨x9, rfl⟩ := in_int1 h9
  exact ⟨⟨x1, x2, x3, x4, x5, x6, _, _, x9⟩, by rw [row_cells, row_cells]; rfl, ⟨l4, l5, b7, b8⟩⟩
theorem args_rule {ts : List TypeId} {al : List AV} (h : ArgsOk T (58 :: ts) al) : ∃ (u : Rule) (al' : _), al = ag u.row :: al' ∧ RuleL u ∧ ArgsOk T ts al' := by
  obtain ⟨qs, al', rfl, h1, h2⟩ := args_agg (by kernel_rfl) h
  obtain ⟨x, rfl, hx⟩ := in_rule h1
  exact ⟨x, al', rfl, hx, h2⟩
theorem in_placed {qs : List PV} (h : PTy T 72 qs) : ∃ p : Placed, qs = p.row := by
  obtain ⟨_, _, rfl, h1, h⟩ := kd_cons (kd_struct (ts := [69, 3]) (by kernel_rfl) h)
  obtain ⟨_, _, rfl, h2, h⟩ := kd_cons h
  obtain rfl := kd_nil h
  obtain ⟨t, rfl⟩ := in_time h1
  obtain ⟨x, rfl⟩ := in_int1 h2
  exact ⟨⟨t, x⟩, rfl⟩
theorem args_placed {ts : List TypeId} {al : List AV} (h : ArgsOk T (39 :: ts) al) : ∃ (p : List Placed) (al' : _), al = .pv (.sl 5 (p.map Placed.row)) :: al' ∧ p.length ≤ 9223372036854775807 ∧ ArgsOk T ts al' := by
  obtain ⟨q, al', rfl, h1, h2⟩ := args_one (by kernel_rfl) h
  obtain ⟨l, h, hl, -⟩ := kd_slice Placed.row (fun _ => True) (e := 72) (z := 5) (by kernel_rfl) (fun r hr => by obtain ⟨s, h⟩ := in_placed hr; exact ⟨s, h, trivial⟩) h1
  injection h with h; subst h
  exact ⟨l, al', rfl, hl, h2⟩
end Go.Proofs.YtmaambipopgdkaaGreat.Cw
