/-
  Part 7 of the proof (AwakeB, X13, A1): what later parts use. No conditions.
-/
import Derived.Test.YtpnghlibmpainaaGreatMU6

/-
  The example with which each law of chapter 32 begins: it answers true. No conditions.
-/
namespace Go.Proofs.YtpnghlibmpainaaGreat.Cw
open Go.Cw Go.Proofs
theorem awake_ok : PCall Tryz.prog 9 [] (fun r => r = vbool true) := by
  have h : exFun T F 100000 20 9 [] [] = some (vbool true, []) := by kernel_rfl
  exact (exFun_ok tok fok mixed 100000 20 9 [] [] _ _ h).mono fun r H' e => ⟨e.2, e.1⟩
end Go.Proofs.YtpnghlibmpainaaGreat.Cw

/-
  The law on the model of examinations.
-/
namespace Go.Proofs.YtpnghlibmpainaaGreat.Cw
open Go.Cw Go.Proofs
set_option linter.unusedVariables false
set_option maxRecDepth 100000
set_option maxHeartbeats 8000000

theorem exam_z {x : Exams} (h : examsE x = 0) : ∀ e ∈ x.exams, e.feats.length ≤ 8 ∧ 1 ≤ e.studs.length ∧ e.studs.length ≤ 64 := by
  unfold examsE at h
  split at h
  · rename_i h1; exact absurd h h1
  split at h
  · cases h
  split at h
  · rename_i h1; exact absurd h h1
  rename_i h2
  have h2 : firstE (exE x.exams) x.exams.length = 0 := Classical.byContradiction fun h => h2 h
  intro e he
  obtain ⟨i, hi⟩ := List.getElem?_of_mem he
  have h3 := firstE_zero_iff.1 h2 i (List.getElem?_eq_some_iff.1 hi).1
  have h4 : examE e = 0 := by
    apply Classical.byContradiction
    intro hk
    rw [yE1 hi hk] at h3
    exact hk h3
  unfold examE at h4
  (repeat' split at h4) <;> first | (cases h4; done) | skip
  rename_i hs _
  have : e.studs.length ≠ 0 := fun k => hs (List.eq_nil_of_length_eq_zero k)
  exact ⟨by omega, by omega, by omega⟩
theorem cost_z {x : Exams} (h : examsE x = 0) : ∀ s ∈ x.sits, 0 ≤ s.cost ∧ s.cost ≤ 1000 := by
  have h := sits_ok h
  have hn := (sits_fine h).1
  unfold sitsE at h
  rw [if_neg (by omega)] at h
  intro s hs
  obtain ⟨i, hi⟩ := List.getElem?_of_mem hs
  have h3 := firstE_zero_iff.1 h i (List.getElem?_eq_some_iff.1 hi).1
  by_cases ht : timedP s
  · apply Classical.byContradiction
    intro hc
    rw [sE2 hi ht (by omega)] at h3
    cases h3
  · rw [sE1 hi ht] at h3
    cases h3
theorem room_zx {l : List Room} {g : Grid} {w : Int} (h : roomsE l g w = 0) : l.length ≤ 16 ∧ ∀ r ∈ l, r.feats.length ≤ 8 ∧ r.closed.length ≤ 24 ∧ 0 ≤ r.seats ∧ r.seats ≤ 1048576 := by
  unfold roomsE at h
  (repeat' split at h) <;> first | (exfalso; omega) | skip
  refine ⟨by omega, fun r hr => ?_⟩
  obtain ⟨i, hi⟩ := List.getElem?_of_mem hr
  have h3 := firstE_zero_iff.1 h i (List.getElem?_eq_some_iff.1 hi).1
  unfold roomE at h3
  rw [hi] at h3
  dsimp only at h3
  (repeat' split at h3) <;> first | (exfalso; omega) | skip
  all_goals exact ⟨by omega, by omega, by omega, by omega⟩
theorem lensX {x : Exams} (h : examsE x = 0) : LensX x := ⟨(room_zx (rooms_ok h)).1, (room_zx (rooms_ok h)).2, exam_z h, (sits_fine (sits_ok h)).1, cost_z h⟩
theorem c_build (x : Exams) (h6 : x.exams.length ≤ 6) : PCall Tryz.prog 20 [ag x.cells] (fun a => a = .tup [ag (buildM x).cells, vint .i64 (buildE x)]) := by
  by_cases h : examsE x = 0
  · exact (c_build0 x h (lensX h) h6).weak fun r h => ⟨_, h.le, rfl⟩
  · exact (c_build1 x h).weak fun r h => ⟨_, h.le, rfl⟩
theorem c_rbuild (x : Exams) (h6 : x.exams.length ≤ 6) : PCall Tryz.prog 21 [ag x.cells] (fun a => a = .tup [ag (buildM x).cells, vint .i64 (buildE x)]) := by
  by_cases h : examsE x = 0
  · exact (c_rbuild0 x h (lensX h) h6).weak fun r h => ⟨_, h.le, rfl⟩
  · exact (c_rbuild1 x h).weak fun r h => ⟨_, h.le, rfl⟩
theorem build_ok2 {x : Exams} (h6 : x.exams.length ≤ 6) (h : buildE x = 0) : BuildOk (clsX x) (setsX x) (entX x) (wtX x) (mostX x) x.rooms.length x.sits.length ∧ (prsU (setsX x) (entX x) 7).length ≤ 4000 := by
  obtain ⟨h0, h24⟩ := build_z h
  have hl := lensX h0
  have hSl : (setsX x).length = x.exams.length := List.length_map _
  refine ⟨⟨by omega, fun A hA => ?_, by unfold clsX setsX; rw [List.length_map, List.length_map], fun i l A h1 h2 => ?_, fun l hl2 o ho => ?_, fun u i k s t _ => entX_ok h0, fun i hi => ?_, fun k hk => ?_, ?_⟩, ?_⟩
  · obtain ⟨e, he, rfl⟩ := List.mem_map.1 (show A ∈ x.exams.map (seatsV x) from hA)
    exact h24 e he
  · unfold clsX at h1
    unfold setsX at h2
    rw [List.getElem?_map] at h1 h2
    obtain ⟨e, he, rfl⟩ := Option.map_eq_some_iff.1 h1
    obtain ⟨e', he', rfl⟩ := Option.map_eq_some_iff.1 h2
    rw [he] at he'; injection he' with he'; subst he'
    exact List.length_map _
  · obtain ⟨e, he, rfl⟩ := List.mem_map.1 (show l ∈ x.exams.map _ from hl2)
    obtain ⟨q, hq, rfl⟩ := List.mem_map.1 ho
    obtain ⟨t, ht⟩ := seats_sit hq
    unfold optS
    rw [ht]
    dsimp only
    have hc := hl.cost t (List.mem_of_getElem? ht)
    by_cases h : 0 < t.cost
    · rw [if_pos h]; exact .inr ⟨t.cost, rfl, by omega, by omega⟩
    · rw [if_neg h]; exact .inl rfl
  · obtain ⟨e, he⟩ := getE (show i < x.exams.length by omega)
    have := hl.exam e (List.mem_of_getElem? he)
    unfold wtX
    rw [he]
    dsimp only
    omega
  · obtain ⟨r, hr⟩ := getE hk
    have := hl.room r (List.mem_of_getElem? hr)
    unfold mostX
    rw [hr]
    exact this.2.2
  · have : x.sits.length * x.rooms.length ≤ 24 * 16 := Nat.mul_le_mul hl.sits hl.rooms
    omega
  · have h1 := prsU_len (S := setsX x) (E := entX x) (u := 7)
    have h2 : (setsX x).length * (setsX x).length ≤ 6 * 6 := Nat.mul_le_mul (by omega) (by omega)
    omega
theorem valid_build {x : Exams} (h6 : x.exams.length ≤ 6) (h : buildE x = 0) : modelE (buildM x) = 0 := by
  obtain ⟨h1, h2⟩ := build_ok2 h6 h
  unfold buildM
  rw [if_pos h]
  exact built_valid h1 h2
theorem build_laid {x : Exams} (h6 : x.exams.length ≤ 6) : Laid (buildM x) ∧ SameOk (buildM x) := by
  by_cases h : buildE x = 0
  · obtain ⟨h1, h2⟩ := build_ok2 h6 h
    unfold buildM
    rw [if_pos h]
    have g1 : (clsX x).length ≤ 24 := by rw [h1.same]; exact h1.cls
    have g2 : ∀ l ∈ clsX x, l.length ≤ 24 := fun l hl => by
      obtain ⟨i, hi⟩ := List.getElem?_of_mem hl
      have hlt := (List.getElem?_eq_some_iff.1 hi).1
      obtain ⟨A, hA⟩ := getE (show i < (setsX x).length by rw [← h1.same]; exact hlt)
      rw [h1.lens i l A hi hA]
      exact h1.opt A (List.mem_of_getElem? hA)
    have g3 : ∀ l ∈ clsX x, ∀ o ∈ l, o.charges.length ≤ 1 := fun l hl o ho => by
      rcases h1.chg l hl o ho with e | ⟨c, e, -⟩ <;> rw [e] <;> simp
    have g4 : ∀ p ∈ prsU (setsX x) (entX x) 7, p.table.length ≤ 576 := fun p hp => by
      obtain ⟨v, i, k, A, B, -, -, hA, hB, rfl⟩ := prs_mem hp
      show (tabS _ _ _ _ A B).length ≤ 576
      rw [tabS_len]
      have := Nat.mul_le_mul (h1.opt A (List.mem_of_getElem? hA)) (h1.opt B (List.mem_of_getElem? hB))
      omega
    have g5 : (cntS (setsX x) (wtX x) (mostX x) x.rooms.length x.sits.length).length ≤ 800 := Nat.le_trans cntS_len h1.cnt
    have g6 : ∀ c ∈ cntS (setsX x) (wtX x) (mostX x) x.rooms.length x.sits.length, c.loads.length ≤ 24 := fun c hc => by
      obtain ⟨a, -, hc⟩ := gr_mem.1 hc
      obtain ⟨r, -, hc⟩ := fm_mem.1 hc
      unfold countS at hc
      split at hc
      · injection hc with hc
        subst hc
        exact Nat.le_trans upto_len h1.cls
      · cases hc
    exact ⟨⟨by dsimp only; omega, by dsimp only; omega, fun l hl o ho => by have := g3 l hl o ho; omega, fun c hc => by have := g6 c hc; omega⟩, ⟨by dsimp only; omega, fun l hl => by have := g2 l hl; omega, fun l hl o ho => by have := g3 l hl o ho; omega, by dsimp only; omega, fun p hp => by have := g4 p hp; omega, by dsimp only; omega, fun c hc => by have := g6 c hc; omega⟩⟩
  · unfold buildM
    rw [if_neg h]
    exact ⟨⟨Nat.zero_le _, Nat.zero_le _, fun l hl => (by cases hl), fun c hc => (by cases hc)⟩, ⟨Nat.zero_le _, fun l hl => (by cases hl), fun l hl => (by cases hl), Nat.zero_le _, fun p hp => (by cases hp), Nat.zero_le _, fun c hc => (by cases hc)⟩⟩
theorem call_some {t : List Int} {k : Nat} {H : Heap} {K : AV → Heap → Prop} (i : Nat) (hi : H[i]? = some (dice t k)) (ht : t.length ≤ 400) (hk : k ≤ t.length)
    (hK : ∀ (x : Exams) k2, k2 ≤ t.length → x.exams.length ≤ 6 → x.sits.length ≤ 6 → K (ag x.cells) (H.set i (dice t k2))) : vcFun Tryz.prog 10 [.ptr i 2 0 0] H K := by
  refine call_one (i := i) hi (fun _ _ => rfl) [.ptr 0 2 0 0] rfl (c_some t k ht hk) ?_
  rintro r H' ⟨y, k', h1, ⟨h3, h4⟩, rfl, rfl⟩
  exact ⟨_, rfl, fun _ _ => rfl, fun _ _ => rfl, hK y k' h1 h3 h4⟩
theorem c_examsbuilds (x : Exams) (t : List Int) : PCall Tryz.prog 4 [ag x.cells, .pv (encInts t)] (fun r => r = vbool true) := by
  refine acall_of tok mixed 66 rfl (fn := Tryz.f4) (c := Tryz.f4.body.getD .skip) (by kernel_rfl) (by kernel_rfl) (by kernel_rfl) rfl 0 rfl ?_
  repeat' (first | (refine join_in (a := .region 3 _ _) (fun y : Exams => [(30, .ms 1 8 0 2), (31, vint .i64 2), (32, vint .i64 0)]) (fun y => [some ⟨33, 8, false, .box (pvs x.cells)⟩, some ⟨33, 8, false, .p [x.cells, y.cells]⟩]) (fun y => y.exams.length ≤ 6) ⟨?_, ?_⟩) | (refine code_region_any ?_) | ((change vcFun _ _ _ _ _; refine call_new [.pv (encInts t)] rfl (c_roll t) (fun _ _ => rfl) ?_)) | ((change vcFun _ _ _ _ _; refine call_some 2 rfl (by assumption) (Nat.zero_le _) ?_; intro y ky hky hy1 hy2)) | refine o1 ?_ | refine o2 ?_ | refine k1 ?_ | refine k2 ?_ | refine k3 ?_ | refine k6 ?_ | refine k7 ?_ | refine And.intro ?_ ?_ | exact trivial | refine o5 ?_ | refine o6 ?_ | (intro h; first | exact Bool.noConfusion h | exact nz _ h | exact nl h | (simp at h; done) | (simp at h; first | (exfalso; omega) | skip) | skip) | (change retOk _ _ _ _; refine ret_pure rfl trivial ?_) | refine eqv_len_map ?_ | (change vcFun _ _ _ _ _; refine call_eq rfl (by repeat' (first | trivial | refine And.intro ?_ ?_ | (show 0 + _ ≤ List.length _; simp))) ALeL.refl (c_light t) rfl ?_) | (change vcFun _ _ _ _ _; refine call_eq rfl (by repeat' (first | trivial | refine And.intro ?_ ?_ | (show 0 + _ ≤ List.length _; simp))) ALeL.refl (awake_ok) rfl ?_) | (change vcFun _ _ _ _ _; refine call_eq rfl (by repeat' (first | trivial | refine And.intro ?_ ?_ | (show 0 + _ ≤ List.length _; simp))) ALeL.refl (c_short x) rfl ?_) | fail)
  all_goals first
    | rfl
    | exact ⟨y, hy1, back [0, 1] rfl rfl ⟨rfl, rfl, trivial⟩ (by repeat' (first | exact trivial | exact rfl | refine And.intro ?_ ?_))⟩
    | skip
  refine ⟨fun y hy => ?_⟩
  repeat' (first | refine k4 ?_ | fail)
  refine loop_for (fun i : Nat => [(30, .ms 1 8 0 2), (31, vint .i64 2), (32, vint .i64 i)]) (fun _ => [none, some ⟨33, 8, false, .p [x.cells, y.cells]⟩]) (fun i => i ≤ 2) (fun i => 2 - i) 0 (by omega) ?_ ?_
  · exact back [0, 1] rfl rfl ⟨rfl, trivial⟩ (by repeat' (first | exact trivial | exact rfl | refine And.intro ?_ ?_))
  intro i hi
  rcases Nat.lt_or_ge i 2 with hlt | hge
  · obtain ⟨z, hz, hz6⟩ : ∃ z : Exams, [x.cells, y.cells][i]? = some z.cells ∧ z.exams.length ≤ 6 := by
      match i, hlt with
      | 0, _ => exact ⟨x, rfl, by omega⟩
      | 1, _ => exact ⟨y, rfl, hy⟩
    have b1 := c_build z hz6
    have b2 := c_rbuild z hz6
    have b3 := build_laid hz6
    have b4 := c_same (buildM z) b3.2
    have b5 := c_valid (buildM z) b3.1
    have b6 := valid_build (x := z) hz6
    generalize buildM z = MM at *
    generalize buildE z = EE at *
    generalize modelE MM = VV at *
    repeat' (first | ((change vcFun _ _ _ _ _; refine call_frz rfl (by repeat' (first | trivial | refine And.intro ?_ ?_ | (show 0 + _ ≤ List.length _; simp))) ALeL.refl b1 ?_; rintro _ rfl)) | ((change vcFun _ _ _ _ _; refine call_frz rfl (by repeat' (first | trivial | refine And.intro ?_ ?_ | (show 0 + _ ≤ List.length _; simp))) ALeL.refl b2 ?_; rintro _ rfl)) | (refine ⟨_, hz, ?_⟩) | refine o1 ?_ | refine o2 ?_ | refine k1 ?_ | refine k2 ?_ | refine k3 ?_ | refine k4 ?_ | refine k6 ?_ | refine And.intro ?_ ?_ | (intro h; first | exact Bool.noConfusion h | exact nz _ h | exact nl h | (simp at h; done) | (simp at h; first | (exfalso; omega) | skip) | skip) | exact (by kernel_rfl : drawOk _ _ = true) | refine eqv_zero ?_ | refine eqv_wrap (by omega) (by omega) ?_ | refine idx_ms _ (by first | rfl | assumption) (by first | assumption | omega) ?_ | (change vcFun _ _ _ _ _; refine call_eq rfl (by repeat' (first | trivial | refine And.intro ?_ ?_ | (show 0 + _ ≤ List.length _; simp))) ALeL.refl (b4) rfl ?_) | (change vcFun _ _ _ _ _; refine call_eq rfl (by repeat' (first | trivial | refine And.intro ?_ ?_ | (show 0 + _ ≤ List.length _; simp))) ALeL.refl (b5) rfl ?_) | fail)
    all_goals first
      | (exfalso; omega)
      | exact ⟨i + 1, by omega, by omega, back [0, 1] rfl rfl ⟨rfl, trivial⟩ (by repeat' (first | exact trivial | exact rfl | refine And.intro ?_ ?_))⟩
  · obtain rfl : i = 2 := by omega
    repeat' (first | refine o1 ?_ | refine o2 ?_ | refine k1 ?_ | refine k2 ?_ | refine k3 ?_ | refine k7 ?_ | refine k8 ?_ | refine And.intro ?_ ?_ | (intro h; first | exact Bool.noConfusion h | exact nz _ h | exact nl h | (simp at h; done) | (simp at h; first | (exfalso; omega) | skip) | skip) | (change retOk _ _ _ _; refine ret_pure rfl trivial ?_) | (change vcFun _ _ _ _ _; refine call_eq rfl (by repeat' (first | trivial | refine And.intro ?_ ?_ | (show 0 + _ ≤ List.length _; simp))) ALeL.refl (awake_ok) rfl ?_) | fail)
    rfl
end Go.Proofs.YtpnghlibmpainaaGreat.Cw

/-
  What the laws of chapter 32 are handed.
-/
namespace Go.Proofs.YtpnghlibmpainaaGreat.Cw
open Go.Cw Go.Proofs
set_option linter.unusedVariables false
set_option maxRecDepth 100000

theorem in_int {qs : List PV} (h : PTy T 3 qs) : ∃ n : Int, qs = [ei n] ∧ -9223372036854775808 ≤ n ∧ n ≤ 9223372036854775807 := kd_int (by kernel_rfl) h
theorem in_str {qs : List PV} (h : PTy T 9 qs) : ∃ s : Str, qs = [es s] := by
  obtain ⟨s, h, _⟩ := kd_str (by kernel_rfl) h
  exact ⟨s, h⟩
theorem in_int1 {qs : List PV} (h : PTy T 3 qs) : ∃ n : Int, qs = [ei n] := by
  obtain ⟨s, h, _⟩ := in_int h
  exact ⟨s, h⟩
theorem in_strs {qs : List PV} (h : PTy T 67 qs) : ∃ l : List Str, qs = [encStrs l] := by
  obtain ⟨l, h, _⟩ := kd_slice (fun s => [es s]) (fun _ => True) (e := 9) (z := 1) (by kernel_rfl) (fun r hr => by obtain ⟨s, h⟩ := in_str hr; exact ⟨s, h, trivial⟩) h
  exact ⟨l, h⟩
theorem in_ints {qs : List PV} (h : PTy T 24 qs) : ∃ l : List Int, qs = [encInts l] := by
  obtain ⟨l, h, _⟩ := kd_slice (fun s => [ei s]) (fun _ => True) (e := 3) (z := 1) (by kernel_rfl) (fun r hr => by obtain ⟨s, h⟩ := in_int1 hr; exact ⟨s, h, trivial⟩) h
  exact ⟨l, h⟩
theorem in_time {qs : List PV} (h : PTy T 38 qs) : ∃ x : Time, qs = x.row := by
  obtain ⟨_, _, rfl, h1, h⟩ := kd_cons (kd_struct (ts := [3, 3, 3, 3]) (by kernel_rfl) h)
  obtain ⟨_, _, rfl, h2, h⟩ := kd_cons h
  obtain ⟨_, _, rfl, h3, h⟩ := kd_cons h
  obtain ⟨_, _, rfl, h4, h⟩ := kd_cons h
  obtain rfl := kd_nil h
  obtain ⟨a, rfl⟩ := in_int1 h1
  obtain ⟨b, rfl⟩ := in_int1 h2
  obtain ⟨c, rfl⟩ := in_int1 h3
  obtain ⟨d, rfl⟩ := in_int1 h4
  exact ⟨⟨a, b, c, d⟩, rfl⟩
theorem in_times {qs : List PV} (h : PTy T 70 qs) : ∃ l : List Time, qs = [encTimes l] := by
  obtain ⟨l, h, _⟩ := kd_slice Time.row (fun _ => True) (e := 38) (z := 4) (by kernel_rfl) (fun r hr => by obtain ⟨s, h⟩ := in_time hr; exact ⟨s, h, trivial⟩) h
  exact ⟨l, h⟩
theorem in_room {qs : List PV} (h : PTy T 72 qs) : ∃ x : Room, qs = x.row := by
  obtain ⟨_, _, rfl, h1, h⟩ := kd_cons (kd_struct (ts := [9, 9, 3, 67, 70]) (by kernel_rfl) h)
  obtain ⟨_, _, rfl, h2, h⟩ := kd_cons h
  obtain ⟨_, _, rfl, h3, h⟩ := kd_cons h
  obtain ⟨_, _, rfl, h4, h⟩ := kd_cons h
  obtain ⟨_, _, rfl, h5, h⟩ := kd_cons h
  obtain rfl := kd_nil h
  obtain ⟨a, rfl⟩ := in_str h1
  obtain ⟨b, rfl⟩ := in_str h2
  obtain ⟨c, rfl⟩ := in_int1 h3
  obtain ⟨d, rfl⟩ := in_strs h4
  obtain ⟨e, rfl⟩ := in_times h5
  exact ⟨⟨a, b, c, d, e⟩, rfl⟩
theorem in_rooms {qs : List PV} (h : PTy T 27 qs) : ∃ l : List Room, qs = [encRooms l] := by
  obtain ⟨l, h, _⟩ := kd_slice Room.row (fun _ => True) (e := 72) (z := 5) (by kernel_rfl) (fun r hr => by obtain ⟨s, h⟩ := in_room hr; exact ⟨s, h, trivial⟩) h
  exact ⟨l, h⟩
theorem in_exam {qs : List PV} (h : PTy T 69 qs) : ∃ x : Exam, qs = x.row := by
  obtain ⟨_, _, rfl, h1, h⟩ := kd_cons (kd_struct (ts := [9, 3, 67, 67]) (by kernel_rfl) h)
  obtain ⟨_, _, rfl, h2, h⟩ := kd_cons h
  obtain ⟨_, _, rfl, h3, h⟩ := kd_cons h
  obtain ⟨_, _, rfl, h4, h⟩ := kd_cons h
  obtain rfl := kd_nil h
  obtain ⟨a, rfl⟩ := in_str h1
  obtain ⟨b, rfl⟩ := in_int1 h2
  obtain ⟨c, rfl⟩ := in_strs h3
  obtain ⟨d, rfl⟩ := in_strs h4
  exact ⟨⟨a, b, c, d⟩, rfl⟩
theorem in_exams1 {qs : List PV} (h : PTy T 28 qs) : ∃ l : List Exam, qs = [.sl 4 (l.map Exam.row)] := by
  obtain ⟨l, h, _⟩ := kd_slice Exam.row (fun _ => True) (e := 69) (z := 4) (by kernel_rfl) (fun r hr => by obtain ⟨s, h⟩ := in_exam hr; exact ⟨s, h, trivial⟩) h
  exact ⟨l, h⟩
theorem in_sit {qs : List PV} (h : PTy T 23 qs) : ∃ x : Sitting, qs = x.row := by
  obtain ⟨_, _, rfl, h1, h⟩ := kd_cons (kd_struct (ts := [3, 3, 3, 3]) (by kernel_rfl) h)
  obtain ⟨_, _, rfl, h2, h⟩ := kd_cons h
  obtain ⟨_, _, rfl, h3, h⟩ := kd_cons h
  obtain ⟨_, _, rfl, h4, h⟩ := kd_cons h
  obtain rfl := kd_nil h
  obtain ⟨a, rfl⟩ := in_int1 h1
  obtain ⟨b, rfl⟩ := in_int1 h2
  obtain ⟨c, rfl⟩ := in_int1 h3
  obtain ⟨d, rfl⟩ := in_int1 h4
  exact ⟨⟨a, b, c, d⟩, rfl⟩
theorem in_sits {qs : List PV} (h : PTy T 29 qs) : ∃ l : List Sitting, qs = [.sl 4 (l.map Sitting.row)] := by
  obtain ⟨l, h, _⟩ := kd_slice Sitting.row (fun _ => True) (e := 23) (z := 4) (by kernel_rfl) (fun r hr => by obtain ⟨s, h⟩ := in_sit hr; exact ⟨s, h, trivial⟩) h
  exact ⟨l, h⟩
theorem in_gaps {qs : List PV} (h : PTy T 31 qs) : ∃ g : Gaps, qs = [ei g.row, ei g.day, ei g.near, ei g.days, ei g.mixed] := by
  obtain ⟨_, _, rfl, h1, h⟩ := kd_cons (kd_struct (ts := [3, 3, 3, 3, 3]) (by kernel_rfl) h)
  obtain ⟨_, _, rfl, h2, h⟩ := kd_cons h
  obtain ⟨_, _, rfl, h3, h⟩ := kd_cons h
  obtain ⟨_, _, rfl, h4, h⟩ := kd_cons h
  obtain ⟨_, _, rfl, h5, h⟩ := kd_cons h
  obtain rfl := kd_nil h
  obtain ⟨a, rfl⟩ := in_int1 h1
  obtain ⟨b, rfl⟩ := in_int1 h2
  obtain ⟨c, rfl⟩ := in_int1 h3
  obtain ⟨d, rfl⟩ := in_int1 h4
  obtain ⟨e, rfl⟩ := in_int1 h5
  exact ⟨⟨a, b, c, d, e⟩, rfl⟩
theorem in_examinations {qs : List PV} (h : PTy T 33 qs) : ∃ x : Exams, qs = x.cells := by
  obtain ⟨_, _, rfl, h1, h⟩ := kd_cons (kd_struct (ts := [27, 28, 29, 31]) (by kernel_rfl) h)
  obtain ⟨_, _, rfl, h2, h⟩ := kd_cons h
  obtain ⟨_, _, rfl, h3, h⟩ := kd_cons h
  obtain ⟨_, _, rfl, h4, h⟩ := kd_cons h
  obtain rfl := kd_nil h
  obtain ⟨a, rfl⟩ := in_rooms h1
  obtain ⟨b, rfl⟩ := in_exams1 h2
  obtain ⟨c, rfl⟩ := in_sits h3
  obtain ⟨d, rfl⟩ := in_gaps h4
  exact ⟨⟨a, b, c, d⟩, rfl⟩
theorem args_exams {ts : List TypeId} {al : List AV} (h : ArgsOk T (33 :: ts) al) : ∃ (x : Exams) (al' : _), al = ag x.cells :: al' ∧ ArgsOk T ts al' := by
  obtain ⟨qs, al', rfl, h1, h2⟩ := args_agg (by kernel_rfl) h
  obtain ⟨x, rfl⟩ := in_examinations h1
  exact ⟨x, al', rfl, h2⟩
theorem args_ints {ts : List TypeId} {al : List AV} (h : ArgsOk T (24 :: ts) al) : ∃ (l : List Int) (al' : _), al = .pv (encInts l) :: al' ∧ ArgsOk T ts al' := by
  obtain ⟨q, al', rfl, h1, h2⟩ := args_one (by kernel_rfl) h
  obtain ⟨l, h⟩ := in_ints h1
  injection h with h; subst h
  exact ⟨l, al', rfl, h2⟩
end Go.Proofs.YtpnghlibmpainaaGreat.Cw
