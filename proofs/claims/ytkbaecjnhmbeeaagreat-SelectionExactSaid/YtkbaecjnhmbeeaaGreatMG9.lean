/-
  Part 9 of the proof (V11, V12, A3, A6): what later parts use. No conditions.
-/
import Derived.Test.YtkbaecjnhmbeeaaGreatMG8
/-
  The example with which each law of chapter 15 begins: it answers true.
-/
namespace Go.Proofs.YtkbaecjnhmbeeaaGreat.Cw
open Go Go.Cw Go.Proofs
set_option linter.unusedVariables false
set_option maxRecDepth 100000
set_option maxHeartbeats 8000000
def nameA : Str := ⟨#[65]⟩
def xQ : Sel := .mk 3 nameA []
def xR : List PV := [ei 3, es nameA, .sl 3 []]
abbrev xC : List PV := [ei 3, es nameA, .val (.slice none 0 0)]
theorem xR_eq : xQ.row = xR := row_mk
theorem xP : PLeL xC xR := ⟨PLe.refl, PLe.refl, PLe.nil, trivial⟩
def a1Q : Sel := .mk 8 noN [allQ, xQ]
def a2Q : Sel := .mk 10 noN [.mk 10 noN [xQ]]
theorem a1_row : a1Q.row = [ei 8, es noN, .sl 3 [allR, xR]] := by unfold a1Q; rw [row_mk, List.map_cons, List.map_cons, allR_eq, xR_eq]; rfl
theorem a2_row : a2Q.row = [ei 10, es noN, .sl 3 [[ei 10, es noN, .sl 3 [xR]]]] := by unfold a2Q; rw [row_mk, List.map_cons, row_mk, List.map_cons, xR_eq]; rfl
theorem codeA : codeP nameA := by
  refine ⟨by decide, by decide, fun i hi b hb => ?_⟩
  have hi : i < 1 := hi
  obtain rfl : i = 0 := by omega
  have hb : some (65 : UInt8) = some b := hb
  injection hb with hb
  subst hb
  unfold chrP
  decide
theorem snd_x : soundB xQ = true := by
  unfold xQ
  rw [sound_mk]
  have : formB 3 nameA ([] : List Sel).length = true := by
    unfold formB
    rw [if_neg (by decide), if_pos (by decide), pB_t codeA]; rfl
  rw [this]; rfl
theorem snd_all : soundB allQ = true := by
  unfold allQ
  rw [sound_mk]
  have : formB 1 noN ([] : List Sel).length = true := by
    unfold formB
    rw [if_pos rfl]; rfl
  rw [this]; rfl
theorem sel_a1 : selP a1Q := by
  refine ⟨by decide, by decide, ?_⟩
  unfold a1Q
  rw [sound_mk]
  have : formB 8 noN [allQ, xQ].length = true := by
    unfold formB
    rw [if_neg (by decide), if_neg (by decide), if_pos (by decide)]; rfl
  rw [this]
  simp [snd_all, snd_x]
theorem sel_a2 : selP a2Q := by
  have h10 : ∀ s, soundB s = true → soundB (.mk 10 noN [s]) = true := fun s hs => by
    rw [sound_mk]
    have : formB 10 noN [s].length = true := by
      unfold formB
      rw [if_neg (by decide), if_neg (by decide), if_neg (by decide)]; rfl
    rw [this]
    simp [hs]
  refine ⟨by decide, by decide, ?_⟩
  unfold a2Q
  exact h10 _ (h10 _ snd_x)
theorem simp_a1 : simA a1Q = xQ ∧ simE a1Q = 0 := by
  unfold simA simE
  rw [pB_t sel_a1]
  refine ⟨?_, rfl⟩
  rw [if_pos rfl]
  rfl
theorem simp_a2 : simA a2Q = xQ ∧ simE a2Q = 0 := by
  unfold simA simE
  rw [pB_t sel_a2]
  refine ⟨?_, rfl⟩
  rw [if_pos rfl]
  rfl
theorem selL_x : SelL xQ := selL_lv _ (by decide)
theorem selL_a1 : SelL a1Q := selL_lv _ (by decide)
theorem selL_a2 : SelL a2Q := selL_lv _ (by decide)
theorem awake_sel : PCall Tryz.prog 10 [] (fun r => r = vbool true) := by
  have h0 := c_lall
  have h1 := c_Simple a1Q selL_a1
  have h2 := c_Simple a2Q selL_a2
  have h3 := c_sameSel xQ selL_x
  have h4 := c_compare allQ xQ selL_allQ selL_x
  rw [simp_a1.1, simp_a1.2, a1_row, xR_eq] at h1
  rw [simp_a2.1, simp_a2.2, a2_row, xR_eq] at h2
  rw [xR_eq] at h3
  rw [allR_eq, xR_eq, show cmpV allQ xQ = -1 from rfl] at h4
  have l1 : ALeL [.agg [.pv (ei 8), .pv (es noN), .pv (.sl 3 [allR, xC])]] [ag [ei 8, es noN, .sl 3 [allR, xR]]] := ⟨ALe.agg ⟨ALe.refl, ALe.refl, ALe.pv (PLe.sl ⟨PLeL.refl, xP, trivial⟩), trivial⟩, trivial⟩
  have l2 : ALeL [.agg [.pv (ei 10), .pv (es noN), .pv (.sl 3 [[ei 10, es noN, .sl 3 [xC]]])]] [ag [ei 10, es noN, .sl 3 [[ei 10, es noN, .sl 3 [xR]]]]] := ⟨ALe.agg ⟨ALe.refl, ALe.refl, ALe.pv (PLe.sl ⟨⟨PLe.refl, PLe.refl, PLe.sl ⟨xP, trivial⟩, trivial⟩, trivial⟩), trivial⟩, trivial⟩
  have l3 : ALeL [ag xR, ag xC] [ag xR, ag xR] := ⟨ALe.refl, ALe.agg (ALe.pvs xP), trivial⟩
  have l4 : ALeL [ag allR, ag xC] [ag allR, ag xR] := ⟨ALe.refl, ALe.agg (ALe.pvs xP), trivial⟩
  refine acall_of tok mixed 46 rfl (fn := Tryz.f10) (c := Tryz.f10.body.getD .skip) (by kernel_rfl) (by kernel_rfl) (by kernel_rfl) rfl 0 rfl ?_
  repeat' (first | (refine join_in (a := .region 2 _ _) (fun _ : Unit => [(2, .ptr 1 3 0 0), (3, vint .i64 0)]) (fun _ => [selB xC, selB xR]) (fun _ => True) ⟨?_, ?_⟩) | (refine (code_region_any ?_ : xCode _ _ _ _ (.region 2 _ _) _ _ _)) | ((change vcFun _ _ _ _ _; refine call_frz rfl (by repeat' (first | trivial | refine And.intro ?_ ?_ | (show 0 + _ ≤ List.length _; simp))) ALeL.refl h0 ?_; rintro _ rfl)) | ((change vcFun _ _ _ _ _; refine call_frz rfl (by repeat' (first | exact True.intro | refine And.intro ?_ ?_ | exact Nat.le_refl _ | exact Nat.le_of_ble_eq_true rfl)) l1 h1 ?_; rintro _ rfl)) | refine o1 ?_ | refine o2 ?_ | refine k1 ?_ | refine k2 ?_ | refine And.intro ?_ ?_ | exact trivial | refine o5 ?_ | refine o6 ?_ | exact (by kernel_rfl : drawOk _ _ = true) | fail)
  all_goals first
    | exact ⟨(), trivial, back [0, 1] rfl rfl ⟨rfl, rfl, trivial⟩ (by repeat' (first | exact trivial | exact rfl | refine And.intro ?_ ?_))⟩
    | exact ⟨(), trivial, back [0, 2] rfl rfl ⟨rfl, rfl, trivial⟩ (by repeat' (first | exact trivial | exact rfl | refine And.intro ?_ ?_))⟩
    | exact ⟨(), trivial, back [0, 3] rfl rfl ⟨rfl, rfl, trivial⟩ (by skip)⟩
    | skip
  refine ⟨fun _ _ => ?_⟩
  repeat' (first | ((change vcFun _ _ _ _ _; refine call_frz rfl (by repeat' (first | exact True.intro | refine And.intro ?_ ?_ | exact Nat.le_refl _ | exact Nat.le_of_ble_eq_true rfl | (intro r hr; have hr2 := List.mem_singleton.1 (show r ∈ [_] from hr); subst hr2))) l2 h2 ?_; rintro _ rfl)) | ((change vcFunD _ _ _ _ _; refine callD_eq rfl (by repeat' (first | trivial | refine And.intro ?_ ?_ | (show 0 + _ ≤ List.length _; simp))) ALeL.refl h0 rfl ?_)) | ((change vcFunD _ _ _ _ _; refine callD_eq rfl (by repeat' (first | trivial | refine And.intro ?_ ?_ | (show 0 + _ ≤ List.length _; simp))) l3 h3 rfl ?_)) | ((change vcFunD _ _ _ _ _; refine callD_eq rfl (by repeat' (first | trivial | refine And.intro ?_ ?_ | (show 0 + _ ≤ List.length _; simp))) l4 h4 rfl ?_)) | refine o1 ?_ | refine o2 ?_ | refine k1 ?_ | refine k2 ?_ | refine k7 ?_ | refine And.intro ?_ ?_ | refine o3 ?_ | refine o4 ?_ | (intro h; first | exact Bool.noConfusion h | exact nz _ h | exact nl h | (simp at h; done) | (simp at h; first | (exfalso; omega) | skip) | skip) | (change retOk _ _ _ _; refine ret_pure rfl trivial ?_) | exact (by kernel_rfl : drawOk _ _ = true) | fail)
  all_goals first
    | rfl
end Go.Proofs.YtkbaecjnhmbeeaaGreat.Cw
/-
  The law SelectionExact, given its example.
-/
namespace Go.Proofs.YtkbaecjnhmbeeaaGreat.Cw
open Go Go.Cw Go.Proofs
set_option linter.unusedVariables false
set_option maxRecDepth 100000
set_option maxHeartbeats 8000000
theorem selL_simA {a : Sel} (h : SelL a) : SelL (simA a) := by
  unfold simA
  by_cases hp : selP a
  · rw [pB_t hp, if_pos rfl]
    obtain ⟨g1, g2⟩ := sel_lv h hp
    have := lv_simp g1
    exact selL_lv _ (by omega)
  · rw [pB_f hp, if_neg (by decide)]
    exact selL_lv _ (by rw [lv, lvL_nil]; decide)
theorem clsL_len (r : Reg) (s : Sel) : (clsL r s).length ≤ 100000 := by
  unfold clsL clsE0
  by_cases hr : regE r = 0
  · rw [if_pos hr]
    split
    · have := (regO hr).s.lens.classes
      have h2 := upto_len (l := r.classes) (f := selF r s) (n := r.classes.length)
      unfold clsV; omega
    · exact Nat.zero_le _
  · rw [if_neg hr, if_neg (by omega)]
    exact Nat.zero_le _
theorem c_sexact (r : Reg) (a b : Sel) (ha : SelL a) (hb : SelL b) : PCall Tryz.prog 4 [ag r.cells, ag a.row, ag b.row] (fun v => v = vbool true) := by
  have h1 := c_parts15 a ha
  have h2 := c_parts15 b hb
  have h3 := awake_sel
  have h4 := c_pclasses r a ha
  have h5 := c_rselC r a ha fun h => ⟨(regO h).s, (regO h).feats⟩
  have h6 := c_Simple a ha
  have h7 := c_rSimple a ha
  have h8 := c_sameInts2 (clsL r a) (clsL_len r a)
  have h9 := c_compare a b ha hb
  have h10 := c_rcompare a b ha hb
  have h11 := c_sameSel (simA a) (selL_simA ha)
  generalize p15 a = P1 at *
  generalize p15 b = P2 at *
  generalize clsL r a = L at *
  generalize clsE0 r a = E at *
  generalize simA a = Z at *
  generalize simE a = F at *
  generalize cmpV a b = C at *
  obtain ⟨ka, na, la⟩ := a
  obtain ⟨kb, nb, lb⟩ := b
  obtain ⟨kz, nz', lz⟩ := Z
  rw [row_mk, row_mk] at *
  refine acall_of tok mixed 89 rfl (fn := Tryz.f4) (c := Tryz.f4.body.getD .skip) (by kernel_rfl) (by kernel_rfl) (by kernel_rfl) rfl 0 rfl ?_
  repeat' (first | ((change vcFun _ _ _ _ _; refine call_frz rfl (by repeat' (first | trivial | refine And.intro ?_ ?_ | (show 0 + _ ≤ List.length _; simp))) ALeL.refl h4 ?_; rintro _ rfl)) | ((change vcFun _ _ _ _ _; refine call_frz rfl (by repeat' (first | trivial | refine And.intro ?_ ?_ | (show 0 + _ ≤ List.length _; simp))) ALeL.refl h5 ?_; rintro _ rfl)) | ((change vcFun _ _ _ _ _; refine call_frz rfl (by repeat' (first | trivial | refine And.intro ?_ ?_ | (show 0 + _ ≤ List.length _; simp))) ALeL.refl h6 ?_; rintro _ rfl)) | ((change vcFun _ _ _ _ _; refine call_frz rfl (by repeat' (first | trivial | refine And.intro ?_ ?_ | (show 0 + _ ≤ List.length _; simp))) ALeL.refl h7 ?_; rintro _ rfl)) | refine o1 ?_ | refine o2 ?_ | refine k1 ?_ | refine k2 ?_ | refine k3 ?_ | refine k6 ?_ | refine k7 ?_ | refine And.intro ?_ ?_ | refine o3 ?_ | refine o4 ?_ | (intro h; first | exact Bool.noConfusion h | exact nz _ h | exact nl h | (simp at h; done) | (simp at h; first | (exfalso; omega) | skip) | skip) | (change retOk _ _ _ _; refine ret_pure rfl trivial ?_) | exact (by kernel_rfl : drawOk _ _ = true) | refine eqv_len_map ?_ | (change vcFun _ _ _ _ _; refine call_eq rfl (by repeat' (first | trivial | refine And.intro ?_ ?_ | (show 0 + _ ≤ List.length _; simp))) ALeL.refl (h1) rfl ?_) | (change vcFun _ _ _ _ _; refine call_eq rfl (by repeat' (first | trivial | refine And.intro ?_ ?_ | (show 0 + _ ≤ List.length _; simp))) ALeL.refl (h2) rfl ?_) | (change vcFun _ _ _ _ _; refine call_eq rfl (by repeat' (first | trivial | refine And.intro ?_ ?_ | (show 0 + _ ≤ List.length _; simp))) ALeL.refl (h3) rfl ?_) | (change vcFunD _ _ _ _ _; refine callD_eq rfl (by repeat' (first | trivial | refine And.intro ?_ ?_ | (show 0 + _ ≤ List.length _; simp))) ALeL.refl (h3) rfl ?_) | (change vcFunD _ _ _ _ _; refine callD_eq rfl (by repeat' (first | trivial | refine And.intro ?_ ?_ | (show 0 + _ ≤ List.length _; simp))) ALeL.refl (h8) rfl ?_) | (change vcFunD _ _ _ _ _; refine callD_eq rfl (by repeat' (first | trivial | refine And.intro ?_ ?_ | (show 0 + _ ≤ List.length _; simp))) ALeL.refl (h9) rfl ?_) | (change vcFunD _ _ _ _ _; refine callD_eq rfl (by repeat' (first | trivial | refine And.intro ?_ ?_ | (show 0 + _ ≤ List.length _; simp))) ALeL.refl (h10) rfl ?_) | (change vcFunD _ _ _ _ _; refine callD_eq rfl (by repeat' (first | trivial | refine And.intro ?_ ?_ | (show 0 + _ ≤ List.length _; simp))) ALeL.refl (h11) rfl ?_) | fail)
  all_goals first
    | rfl
    | (refine congrArg vbool ?_; simp)
end Go.Proofs.YtkbaecjnhmbeeaaGreat.Cw
/-
  What laws on registries are handed.
-/
namespace Go.Proofs.YtkbaecjnhmbeeaaGreat.Cw
open Go.Cw Go.Proofs
set_option linter.unusedVariables false
set_option maxRecDepth 100000
theorem in_int {qs : List PV} (h : PTy T 3 qs) : ∃ n : Int, qs = [ei n] ∧ -9223372036854775808 ≤ n ∧ n ≤ 9223372036854775807 := kd_int (by kernel_rfl) h
theorem in_str {qs : List PV} (h : PTy T 9 qs) : ∃ s : Str, qs = [es s] := by
  obtain ⟨s, h, _⟩ := kd_str (by kernel_rfl) h
  exact ⟨s, h⟩
theorem in_int1 {qs : List PV} (h : PTy T 3 qs) : ∃ n : Int, qs = [ei n] := by
  obtain ⟨s, h, _⟩ := in_int h
  exact ⟨s, h⟩
theorem in_strs {qs : List PV} (h : PTy T 28 qs) : ∃ l : List Str, qs = [encStrs l] := by
  obtain ⟨l, h, _⟩ := kd_slice (fun s => [es s]) (fun _ => True) (e := 9) (z := 1) (by kernel_rfl) (fun r hr => by obtain ⟨s, h⟩ := in_str hr; exact ⟨s, h, trivial⟩) h
  exact ⟨l, h⟩
theorem in_ints {qs : List PV} (h : PTy T 24 qs) : ∃ l : List Int, qs = [encInts l] := by
  obtain ⟨l, h, _⟩ := kd_slice (fun s => [ei s]) (fun _ => True) (e := 3) (z := 1) (by kernel_rfl) (fun r hr => by obtain ⟨s, h⟩ := in_int1 hr; exact ⟨s, h, trivial⟩) h
  exact ⟨l, h⟩
theorem in_time {qs : List PV} (h : PTy T 135 qs) : ∃ x : Time, qs = x.row := by
  obtain ⟨_, _, rfl, h1, h⟩ := kd_cons (kd_struct (ts := [3, 3, 3, 3]) (by kernel_rfl) h)
  obtain ⟨_, _, rfl, h2, h⟩ := kd_cons h
  obtain ⟨_, _, rfl, h3, h⟩ := kd_cons h
  obtain ⟨_, _, rfl, h4, h⟩ := kd_cons h
  obtain rfl := kd_nil h
  obtain ⟨a, rfl⟩ := in_int1 h1
  obtain ⟨b, rfl⟩ := in_int1 h2
  obtain ⟨c, rfl⟩ := in_int1 h3
  obtain ⟨d, rfl⟩ := in_int1 h4
  exact ⟨⟨a, b, c, d⟩, rfl⟩
theorem in_times {qs : List PV} (h : PTy T 66 qs) : ∃ l : List Time, qs = [encTimes l] := by
  obtain ⟨l, h, _⟩ := kd_slice Time.row (fun _ => True) (e := 135) (z := 4) (by kernel_rfl) (fun r hr => by obtain ⟨s, h⟩ := in_time hr; exact ⟨s, h, trivial⟩) h
  exact ⟨l, h⟩
theorem in_room {qs : List PV} (h : PTy T 163 qs) : ∃ x : Room, qs = x.row := by
  obtain ⟨_, _, rfl, h1, h⟩ := kd_cons (kd_struct (ts := [9, 9, 3, 28, 66]) (by kernel_rfl) h)
  obtain ⟨_, _, rfl, h2, h⟩ := kd_cons h
  obtain ⟨_, _, rfl, h3, h⟩ := kd_cons h
  obtain ⟨_, _, rfl, h4, h⟩ := kd_cons h
  obtain ⟨_, _, rfl, h5, h⟩ := kd_cons h
  obtain rfl := kd_nil h
  obtain ⟨a, rfl⟩ := in_str h1
  obtain ⟨b, rfl⟩ := in_str h2
  obtain ⟨c, rfl⟩ := in_int1 h3
  obtain ⟨d, rfl⟩ := in_strs h4
  obtain ⟨e, rfl⟩ := in_times h5
  exact ⟨⟨a, b, c, d, e⟩, rfl⟩
theorem in_rooms {qs : List PV} (h : PTy T 27 qs) : ∃ l : List Room, qs = [encRooms l] := by
  obtain ⟨l, h, _⟩ := kd_slice Room.row (fun _ => True) (e := 163) (z := 5) (by kernel_rfl) (fun r hr => by obtain ⟨s, h⟩ := in_room hr; exact ⟨s, h, trivial⟩) h
  exact ⟨l, h⟩
theorem in_rows {qs : List PV} (h : PTy T 24 qs) : ∃ l : List Int, qs = intsRow l := in_ints h
theorem in_rowss {qs : List PV} (h : PTy T 29 qs) : ∃ l : List (List Int), qs = [.sl 1 (l.map intsRow)] := by
  obtain ⟨l, h, _⟩ := kd_slice intsRow (fun _ => True) (e := 24) (z := 1) (by kernel_rfl) (fun r hr => by obtain ⟨s, h⟩ := in_rows hr; exact ⟨s, h, trivial⟩) h
  exact ⟨l, h⟩
theorem in_term {qs : List PV} (h : PTy T 26 qs) : ∃ x : Term, qs = x.row := by
  obtain ⟨_, _, rfl, h1, h⟩ := kd_cons (kd_struct (ts := [3, 3, 24]) (by kernel_rfl) h)
  obtain ⟨_, _, rfl, h2, h⟩ := kd_cons h
  obtain ⟨_, _, rfl, h3, h⟩ := kd_cons h
  obtain rfl := kd_nil h
  obtain ⟨x1, rfl⟩ := in_int1 h1
  obtain ⟨x2, rfl⟩ := in_int1 h2
  obtain ⟨x3, rfl⟩ := in_ints h3
  exact ⟨⟨x1, x2, x3⟩, rfl⟩
theorem in_grid {qs : List PV} (h : PTy T 23 qs) : ∃ x : Grid, qs = x.row := by
  obtain ⟨_, _, rfl, h1, h⟩ := kd_cons (kd_struct (ts := [3, 3, 3, 3]) (by kernel_rfl) h)
  obtain ⟨_, _, rfl, h2, h⟩ := kd_cons h
  obtain ⟨_, _, rfl, h3, h⟩ := kd_cons h
  obtain ⟨_, _, rfl, h4, h⟩ := kd_cons h
  obtain rfl := kd_nil h
  obtain ⟨x1, rfl⟩ := in_int1 h1
  obtain ⟨x2, rfl⟩ := in_int1 h2
  obtain ⟨x3, rfl⟩ := in_int1 h3
  obtain ⟨x4, rfl⟩ := in_int1 h4
  exact ⟨⟨x1, x2, x3, x4⟩, rfl⟩
theorem in_travel {qs : List PV} (h : PTy T 31 qs) : ∃ x : Travel, qs = x.row := by
  obtain ⟨_, _, rfl, h1, h⟩ := kd_cons (kd_struct (ts := [28, 29]) (by kernel_rfl) h)
  obtain ⟨_, _, rfl, h2, h⟩ := kd_cons h
  obtain rfl := kd_nil h
  obtain ⟨x1, rfl⟩ := in_strs h1
  obtain ⟨x2, rfl⟩ := in_rowss h2
  exact ⟨⟨x1, x2⟩, rfl⟩
theorem in_lect {qs : List PV} (h : PTy T 184 qs) : ∃ x : Lecturer, qs = x.row := by
  obtain ⟨_, _, rfl, h1, h⟩ := kd_cons (kd_struct (ts := [9, 66]) (by kernel_rfl) h)
  obtain ⟨_, _, rfl, h2, h⟩ := kd_cons h
  obtain rfl := kd_nil h
  obtain ⟨x1, rfl⟩ := in_str h1
  obtain ⟨x2, rfl⟩ := in_times h2
  exact ⟨⟨x1, x2⟩, rfl⟩
theorem in_lects {qs : List PV} (h : PTy T 32 qs) : ∃ l : List Lecturer, qs = [.sl 2 (l.map Lecturer.row)] := by
  obtain ⟨l, h, _⟩ := kd_slice Lecturer.row (fun _ => True) (e := 184) (z := 2) (by kernel_rfl) (fun r hr => by obtain ⟨s, h⟩ := in_lect hr; exact ⟨s, h, trivial⟩) h
  exact ⟨l, h⟩
theorem in_start {qs : List PV} (h : PTy T 241 qs) : ∃ x : Start, qs = x.row := by
  obtain ⟨_, _, rfl, h1, h⟩ := kd_cons (kd_struct (ts := [3, 3]) (by kernel_rfl) h)
  obtain ⟨_, _, rfl, h2, h⟩ := kd_cons h
  obtain rfl := kd_nil h
  obtain ⟨x1, rfl⟩ := in_int1 h1
  obtain ⟨x2, rfl⟩ := in_int1 h2
  exact ⟨⟨x1, x2⟩, rfl⟩
theorem in_starts {qs : List PV} (h : PTy T 63 qs) : ∃ l : List Start, qs = [.sl 2 (l.map Start.row)] := by
  obtain ⟨l, h, _⟩ := kd_slice Start.row (fun _ => True) (e := 241) (z := 2) (by kernel_rfl) (fun r hr => by obtain ⟨s, h⟩ := in_start hr; exact ⟨s, h, trivial⟩) h
  exact ⟨l, h⟩
theorem in_class {qs : List PV} (h : PTy T 65 qs) : ∃ x : Class, qs = x.row := by
  obtain ⟨_, _, rfl, h1, h⟩ := kd_cons (kd_struct (ts := [9, 9, 9, 3, 24, 3, 28, 28, 63]) (by kernel_rfl) h)
  obtain ⟨_, _, rfl, h2, h⟩ := kd_cons h
  obtain ⟨_, _, rfl, h3, h⟩ := kd_cons h
  obtain ⟨_, _, rfl, h4, h⟩ := kd_cons h
  obtain ⟨_, _, rfl, h5, h⟩ := kd_cons h
  obtain ⟨_, _, rfl, h6, h⟩ := kd_cons h
  obtain ⟨_, _, rfl, h7, h⟩ := kd_cons h
  obtain ⟨_, _, rfl, h8, h⟩ := kd_cons h
  obtain ⟨_, _, rfl, h9, h⟩ := kd_cons h
  obtain rfl := kd_nil h
  obtain ⟨x1, rfl⟩ := in_str h1
  obtain ⟨x2, rfl⟩ := in_str h2
  obtain ⟨x3, rfl⟩ := in_str h3
  obtain ⟨x4, rfl⟩ := in_int1 h4
  obtain ⟨x5, rfl⟩ := in_ints h5
  obtain ⟨x6, rfl⟩ := in_int1 h6
  obtain ⟨x7, rfl⟩ := in_strs h7
  obtain ⟨x8, rfl⟩ := in_strs h8
  obtain ⟨x9, rfl⟩ := in_starts h9
  exact ⟨⟨x1, x2, x3, x4, x5, x6, x7, x8, x9⟩, rfl⟩
theorem in_classs {qs : List PV} (h : PTy T 33 qs) : ∃ l : List Class, qs = [.sl 9 (l.map Class.row)] := by
  obtain ⟨l, h, _⟩ := kd_slice Class.row (fun _ => True) (e := 65) (z := 9) (by kernel_rfl) (fun r hr => by obtain ⟨s, h⟩ := in_class hr; exact ⟨s, h, trivial⟩) h
  exact ⟨l, h⟩
theorem in_curri {qs : List PV} (h : PTy T 115 qs) : ∃ x : Curri, qs = x.row := by
  obtain ⟨_, _, rfl, h1, h⟩ := kd_cons (kd_struct (ts := [9, 28]) (by kernel_rfl) h)
  obtain ⟨_, _, rfl, h2, h⟩ := kd_cons h
  obtain rfl := kd_nil h
  obtain ⟨x1, rfl⟩ := in_str h1
  obtain ⟨x2, rfl⟩ := in_strs h2
  exact ⟨⟨x1, x2⟩, rfl⟩
theorem in_curris {qs : List PV} (h : PTy T 34 qs) : ∃ l : List Curri, qs = [.sl 2 (l.map Curri.row)] := by
  obtain ⟨l, h, _⟩ := kd_slice Curri.row (fun _ => True) (e := 115) (z := 2) (by kernel_rfl) (fun r hr => by obtain ⟨s, h⟩ := in_curri hr; exact ⟨s, h, trivial⟩) h
  exact ⟨l, h⟩
theorem in_req {qs : List PV} (h : PTy T 120 qs) : ∃ x : Req, qs = x.row := by
  obtain ⟨_, _, rfl, h1, h⟩ := kd_cons (kd_struct (ts := [9, 9, 3, 28]) (by kernel_rfl) h)
  obtain ⟨_, _, rfl, h2, h⟩ := kd_cons h
  obtain ⟨_, _, rfl, h3, h⟩ := kd_cons h
  obtain ⟨_, _, rfl, h4, h⟩ := kd_cons h
  obtain rfl := kd_nil h
  obtain ⟨x1, rfl⟩ := in_str h1
  obtain ⟨x2, rfl⟩ := in_str h2
  obtain ⟨x3, rfl⟩ := in_int1 h3
  obtain ⟨x4, rfl⟩ := in_strs h4
  exact ⟨⟨x1, x2, x3, x4⟩, rfl⟩
theorem in_reqs {qs : List PV} (h : PTy T 35 qs) : ∃ l : List Req, qs = [.sl 4 (l.map Req.row)] := by
  obtain ⟨l, h, _⟩ := kd_slice Req.row (fun _ => True) (e := 120) (z := 4) (by kernel_rfl) (fun r hr => by obtain ⟨s, h⟩ := in_req hr; exact ⟨s, h, trivial⟩) h
  exact ⟨l, h⟩
theorem in_reg {qs : List PV} (h : PTy T 37 qs) : ∃ x : Reg, qs = x.cells := by
  obtain ⟨_, _, rfl, h1, h⟩ := kd_cons (kd_struct (ts := [23, 26, 27, 31, 32, 33, 34, 35]) (by kernel_rfl) h)
  obtain ⟨_, _, rfl, h2, h⟩ := kd_cons h
  obtain ⟨_, _, rfl, h3, h⟩ := kd_cons h
  obtain ⟨_, _, rfl, h4, h⟩ := kd_cons h
  obtain ⟨_, _, rfl, h5, h⟩ := kd_cons h
  obtain ⟨_, _, rfl, h6, h⟩ := kd_cons h
  obtain ⟨_, _, rfl, h7, h⟩ := kd_cons h
  obtain ⟨_, _, rfl, h8, h⟩ := kd_cons h
  obtain rfl := kd_nil h
  obtain ⟨x1, rfl⟩ := in_grid h1
  obtain ⟨x2, rfl⟩ := in_term h2
  obtain ⟨x3, rfl⟩ := in_rooms h3
  obtain ⟨x4, rfl⟩ := in_travel h4
  obtain ⟨x5, rfl⟩ := in_lects h5
  obtain ⟨x6, rfl⟩ := in_classs h6
  obtain ⟨x7, rfl⟩ := in_curris h7
  obtain ⟨x8, rfl⟩ := in_reqs h8
  exact ⟨⟨x1, x2, x3, x4, x5, x6, x7, x8⟩, rfl⟩
theorem args_reg {ts : List TypeId} {al : List AV} (h : ArgsOk T (37 :: ts) al) : ∃ (x : Reg) (al' : _), al = ag x.cells :: al' ∧ ArgsOk T ts al' := by
  obtain ⟨qs, al', rfl, h1, h2⟩ := args_agg (by kernel_rfl) h
  obtain ⟨x, rfl⟩ := in_reg h1
  exact ⟨x, al', rfl, h2⟩
end Go.Proofs.YtkbaecjnhmbeeaaGreat.Cw
/-
  What the law on selections is handed: a registry, selections.
-/
namespace Go.Proofs.YtkbaecjnhmbeeaaGreat.Cw
open Go.Cw Go.Proofs
set_option linter.unusedVariables false
set_option maxRecDepth 100000
theorem kd_raw {t e : TypeId} {z : Nat} {qs : List PV} (hk : elemAt T t = some (e, z)) (h : PTy T t qs) : ∃ xs : List (List PV), qs = [.sl z xs] ∧ xs.length ≤ 9223372036854775807 ∧ ∀ r ∈ xs, PTy T e r := by
  obtain ⟨l, h1, h2, h3⟩ := kd_slice (fun r : List PV => r) (fun r => PTy T e r) hk (fun r hr => ⟨r, rfl, hr⟩) h
  exact ⟨l, by simpa using h1, h2, h3⟩
theorem map_all {α β : Type} {f : α → β} {p : α → Prop} : ∀ {l : List β}, (∀ r ∈ l, ∃ a, r = f a ∧ p a) → ∃ m : List α, l = m.map f ∧ ∀ a ∈ m, p a
  | [], _ => ⟨[], rfl, fun a h => by cases h⟩
  | r :: l, h => by
    obtain ⟨a, rfl, ha⟩ := h r (by simp)
    obtain ⟨m, rfl, hm⟩ := map_all (l := l) fun r hr => h r (by simp [hr])
    exact ⟨a :: m, rfl, fun b hb => by
      rcases List.mem_cons.1 hb with rfl | hb
      · exact ha
      · exact hm b hb⟩
theorem in_sel : ∀ (n : Nat) {qs : List PV}, SizeOf.sizeOf qs < n → PTy T 52 qs → ∃ s : Sel, qs = s.row ∧ SelL s
  | 0, _, hn, _ => absurd hn (Nat.not_lt_zero _)
  | n + 1, qs, hn, h => by
    obtain ⟨_, _, rfl, h1, h⟩ := kd_cons (kd_struct (ts := [3, 9, 50]) (by kernel_rfl) h)
    obtain ⟨_, _, rfl, h2, h⟩ := kd_cons h
    obtain ⟨_, _, rfl, h3, h⟩ := kd_cons h
    obtain rfl := kd_nil h
    obtain ⟨x1, rfl⟩ := in_int1 h1
    obtain ⟨x2, rfl⟩ := in_str h2
    obtain ⟨xs, rfl, hl, hx⟩ := kd_raw (e := 52) (z := 3) (by kernel_rfl) h3
    obtain ⟨m, rfl, hm⟩ := map_all (f := Sel.row) (p := SelL) fun r hr => in_sel n (by
      have := List.sizeOf_lt_of_mem hr
      simp at hn
      omega) (hx r hr)
    exact ⟨.mk x1 x2 m, by rw [row_mk]; rfl, .mk (by simpa using hl) hm⟩
theorem args_sel {ts : List TypeId} {al : List AV} (h : ArgsOk T (52 :: ts) al) : ∃ (u : Sel) (al' : _), al = ag u.row :: al' ∧ SelL u ∧ ArgsOk T ts al' := by
  obtain ⟨qs, al', rfl, h1, h2⟩ := args_agg (by kernel_rfl) h
  obtain ⟨x, rfl, hx⟩ := in_sel _ (Nat.lt_succ_self _) h1
  exact ⟨x, al', rfl, hx, h2⟩
end Go.Proofs.YtkbaecjnhmbeeaaGreat.Cw
