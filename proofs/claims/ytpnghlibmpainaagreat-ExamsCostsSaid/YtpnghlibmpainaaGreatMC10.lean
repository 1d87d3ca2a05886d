/-
  Part 10 of the proof (AwakeB, X13, S1, G8, G9, G10, H1, S2, LS, S3, H2, H3, H4, A1): what later parts use. No conditions.
-/
import Derived.Test.YtpnghlibmpainaaGreatMC9

/-
  The example with which each law of chapter 32 begins: it answers true. No conditions.
-/
namespace Go.Proofs.YtpnghlibmpainaaGreat.Cw
open Go.Cw Go.Proofs
theorem awake_ok : PCall Tryz.prog 9 [] (fun r => r = vbool true) := by
  have h : exFun T F 100000 20 9 [] [] = some (vbool true, []) := by kernel_rfl
  exact (exFun_ok tok fok mixed 100000 20 9 [] [] _ _ h).mono fun r H' e => ⟨e.2, e.1⟩
end Go.Proofs.YtpnghlibmpainaaGreat.Cw

/-
  The law on the model of examinations.
-/
namespace Go.Proofs.YtpnghlibmpainaaGreat.Cw
open Go.Cw Go.Proofs
set_option linter.unusedVariables false
set_option maxRecDepth 100000
set_option maxHeartbeats 8000000

theorem exam_z {x : Exams} (h : examsE x = 0) : ∀ e ∈ x.exams, e.feats.length ≤ 8 ∧ 1 ≤ e.studs.length ∧ e.studs.length ≤ 64 := by
  unfold examsE at h
  split at h
  · rename_i h1; exact absurd h h1
  split at h
  · cases h
  split at h
  · rename_i h1; exact absurd h h1
  rename_i h2
  have h2 : firstE (exE x.exams) x.exams.length = 0 := Classical.byContradiction fun h => h2 h
  intro e he
  obtain ⟨i, hi⟩ := List.getElem?_of_mem he
  have h3 := firstE_zero_iff.1 h2 i (List.getElem?_eq_some_iff.1 hi).1
  have h4 : examE e = 0 := by
    apply Classical.byContradiction
    intro hk
    rw [yE1 hi hk] at h3
    exact hk h3
  unfold examE at h4
  (repeat' split at h4) <;> first | (cases h4; done) | skip
  rename_i hs _
  have : e.studs.length ≠ 0 := fun k => hs (List.eq_nil_of_length_eq_zero k)
  exact ⟨by omega, by omega, by omega⟩
theorem cost_z {x : Exams} (h : examsE x = 0) : ∀ s ∈ x.sits, 0 ≤ s.cost ∧ s.cost ≤ 1000 := by
  have h := sits_ok h
  have hn := (sits_fine h).1
  unfold sitsE at h
  rw [if_neg (by omega)] at h
  intro s hs
  obtain ⟨i, hi⟩ := List.getElem?_of_mem hs
  have h3 := firstE_zero_iff.1 h i (List.getElem?_eq_some_iff.1 hi).1
  by_cases ht : timedP s
  · apply Classical.byContradiction
    intro hc
    rw [sE2 hi ht (by omega)] at h3
    cases h3
  · rw [sE1 hi ht] at h3
    cases h3
theorem room_zx {l : List Room} {g : Grid} {w : Int} (h : roomsE l g w = 0) : l.length ≤ 16 ∧ ∀ r ∈ l, r.feats.length ≤ 8 ∧ r.closed.length ≤ 24 ∧ 0 ≤ r.seats ∧ r.seats ≤ 1048576 := by
  unfold roomsE at h
  (repeat' split at h) <;> first | (exfalso; omega) | skip
  refine ⟨by omega, fun r hr => ?_⟩
  obtain ⟨i, hi⟩ := List.getElem?_of_mem hr
  have h3 := firstE_zero_iff.1 h i (List.getElem?_eq_some_iff.1 hi).1
  unfold roomE at h3
  rw [hi] at h3
  dsimp only at h3
  (repeat' split at h3) <;> first | (exfalso; omega) | skip
  all_goals exact ⟨by omega, by omega, by omega, by omega⟩
theorem lensX {x : Exams} (h : examsE x = 0) : LensX x := ⟨(room_zx (rooms_ok h)).1, (room_zx (rooms_ok h)).2, exam_z h, (sits_fine (sits_ok h)).1, cost_z h⟩
theorem c_build (x : Exams) (h6 : x.exams.length ≤ 6) : PCall Tryz.prog 20 [ag x.cells] (fun a => a = .tup [ag (buildM x).cells, vint .i64 (buildE x)]) := by
  by_cases h : examsE x = 0
  · exact (c_build0 x h (lensX h) h6).weak fun r h => ⟨_, h.le, rfl⟩
  · exact (c_build1 x h).weak fun r h => ⟨_, h.le, rfl⟩
theorem build_ok2 {x : Exams} (h6 : x.exams.length ≤ 6) (h : buildE x = 0) : BuildOk (clsX x) (setsX x) (entX x) (wtX x) (mostX x) x.rooms.length x.sits.length ∧ (prsU (setsX x) (entX x) 7).length ≤ 4000 := by
  obtain ⟨h0, h24⟩ := build_z h
  have hl := lensX h0
  have hSl : (setsX x).length = x.exams.length := List.length_map _
  refine ⟨⟨by omega, fun A hA => ?_, by unfold clsX setsX; rw [List.length_map, List.length_map], fun i l A h1 h2 => ?_, fun l hl2 o ho => ?_, fun u i k s t _ => entX_ok h0, fun i hi => ?_, fun k hk => ?_, ?_⟩, ?_⟩
  · obtain ⟨e, he, rfl⟩ := List.mem_map.1 (show A ∈ x.exams.map (seatsV x) from hA)
    exact h24 e he
  · unfold clsX at h1
    unfold setsX at h2
    rw [List.getElem?_map] at h1 h2
    obtain ⟨e, he, rfl⟩ := Option.map_eq_some_iff.1 h1
    obtain ⟨e', he', rfl⟩ := Option.map_eq_some_iff.1 h2
    rw [he] at he'; injection he' with he'; subst he'
    exact List.length_map _
  · obtain ⟨e, he, rfl⟩ := List.mem_map.1 (show l ∈ x.exams.map _ from hl2)
    obtain ⟨q, hq, rfl⟩ := List.mem_map.1 ho
    obtain ⟨t, ht⟩ := seats_sit hq
    unfold optS
    rw [ht]
    dsimp only
    have hc := hl.cost t (List.mem_of_getElem? ht)
    by_cases h : 0 < t.cost
    · rw [if_pos h]; exact .inr ⟨t.cost, rfl, by omega, by omega⟩
    · rw [if_neg h]; exact .inl rfl
  · obtain ⟨e, he⟩ := getE (show i < x.exams.length by omega)
    have := hl.exam e (List.mem_of_getElem? he)
    unfold wtX
    rw [he]
    dsimp only
    omega
  · obtain ⟨r, hr⟩ := getE hk
    have := hl.room r (List.mem_of_getElem? hr)
    unfold mostX
    rw [hr]
    exact this.2.2
  · have : x.sits.length * x.rooms.length ≤ 24 * 16 := Nat.mul_le_mul hl.sits hl.rooms
    omega
  · have h1 := prsU_len (S := setsX x) (E := entX x) (u := 7)
    have h2 : (setsX x).length * (setsX x).length ≤ 6 * 6 := Nat.mul_le_mul (by omega) (by omega)
    omega
theorem valid_build {x : Exams} (h6 : x.exams.length ≤ 6) (h : buildE x = 0) : modelE (buildM x) = 0 := by
  obtain ⟨h1, h2⟩ := build_ok2 h6 h
  unfold buildM
  rw [if_pos h]
  exact built_valid h1 h2
theorem build_laid {x : Exams} (h6 : x.exams.length ≤ 6) : Laid (buildM x) ∧ SameOk (buildM x) := by
  by_cases h : buildE x = 0
  · obtain ⟨h1, h2⟩ := build_ok2 h6 h
    unfold buildM
    rw [if_pos h]
    have g1 : (clsX x).length ≤ 24 := by rw [h1.same]; exact h1.cls
    have g2 : ∀ l ∈ clsX x, l.length ≤ 24 := fun l hl => by
      obtain ⟨i, hi⟩ := List.getElem?_of_mem hl
      have hlt := (List.getElem?_eq_some_iff.1 hi).1
      obtain ⟨A, hA⟩ := getE (show i < (setsX x).length by rw [← h1.same]; exact hlt)
      rw [h1.lens i l A hi hA]
      exact h1.opt A (List.mem_of_getElem? hA)
    have g3 : ∀ l ∈ clsX x, ∀ o ∈ l, o.charges.length ≤ 1 := fun l hl o ho => by
      rcases h1.chg l hl o ho with e | ⟨c, e, -⟩ <;> rw [e] <;> simp
    have g4 : ∀ p ∈ prsU (setsX x) (entX x) 7, p.table.length ≤ 576 := fun p hp => by
      obtain ⟨v, i, k, A, B, -, -, hA, hB, rfl⟩ := prs_mem hp
      show (tabS _ _ _ _ A B).length ≤ 576
      rw [tabS_len]
      have := Nat.mul_le_mul (h1.opt A (List.mem_of_getElem? hA)) (h1.opt B (List.mem_of_getElem? hB))
      omega
    have g5 : (cntS (setsX x) (wtX x) (mostX x) x.rooms.length x.sits.length).length ≤ 800 := Nat.le_trans cntS_len h1.cnt
    have g6 : ∀ c ∈ cntS (setsX x) (wtX x) (mostX x) x.rooms.length x.sits.length, c.loads.length ≤ 24 := fun c hc => by
      obtain ⟨a, -, hc⟩ := gr_mem.1 hc
      obtain ⟨r, -, hc⟩ := fm_mem.1 hc
      unfold countS at hc
      split at hc
      · injection hc with hc
        subst hc
        exact Nat.le_trans upto_len h1.cls
      · cases hc
    exact ⟨⟨by dsimp only; omega, by dsimp only; omega, fun l hl o ho => by have := g3 l hl o ho; omega, fun c hc => by have := g6 c hc; omega⟩, ⟨by dsimp only; omega, fun l hl => by have := g2 l hl; omega, fun l hl o ho => by have := g3 l hl o ho; omega, by dsimp only; omega, fun p hp => by have := g4 p hp; omega, by dsimp only; omega, fun c hc => by have := g6 c hc; omega⟩⟩
  · unfold buildM
    rw [if_neg h]
    exact ⟨⟨Nat.zero_le _, Nat.zero_le _, fun l hl => (by cases hl), fun c hc => (by cases hc)⟩, ⟨Nat.zero_le _, fun l hl => (by cases hl), fun l hl => (by cases hl), Nat.zero_le _, fun p hp => (by cases hp), Nat.zero_le _, fun c hc => (by cases hc)⟩⟩
end Go.Proofs.YtpnghlibmpainaaGreat.Cw

/-
  Contracts: where a place is.
-/
namespace Go.Proofs.YtpnghlibmpainaaGreat.Cw
open Go Go.Cw Go.Proofs
set_option linter.unusedVariables false
set_option maxRecDepth 100000
set_option maxHeartbeats 4000000

/-- The first sitting at a time. -/
noncomputable def sitW (x : Exams) (t : Time) : Int := idxB (fun s => pB (timeOf s = t)) x.sits
def whereP (x : Exams) (p : Placed) : Prop := examsE x = 0 ∧ 0 ≤ sitW x p.time ∧ 0 ≤ p.room ∧ p.room < x.rooms.length
noncomputable def whereA (x : Exams) (p : Placed) : AV := .tup [vint .i64 (if pB (whereP x p) then sitW x p.time else 0), vint .i64 (if pB (whereP x p) then p.room else 0), vbool (pB (whereP x p))]
theorem whereA_t {x : Exams} {p : Placed} (h : whereP x p) : whereA x p = .tup [vint .i64 (sitW x p.time), vint .i64 p.room, vbool true] := by unfold whereA; rw [pB_t h]; rfl
theorem whereA_f {x : Exams} {p : Placed} (h : ¬ whereP x p) : whereA x p = .tup [vint .i64 0, vint .i64 0, vbool false] := by unfold whereA; rw [pB_f h]; rfl
theorem time_beq {a b : Time} : (a.weeks == b.weeks && (a.day == b.day && (a.start == b.start && (a.len == b.len && true)))) = pB (a = b) := by
  obtain ⟨a1, a2, a3, a4⟩ := a
  obtain ⟨b1, b2, b3, b4⟩ := b
  refine pB_eq ?_
  simp
theorem c_index_sit (l : List Sitting) (f : FuncId) (caps : List PV) (p : Sitting → Bool) (hl : l.length ≤ 100000) (hf : ∀ x ∈ l, PCall Tryz.prog f (ag (Sitting.row x) :: pvs caps) (fun r => r = vbool (p x))) :
    PCall Tryz.prog 106 [.pv (.sl 4 (l.map Sitting.row)), .pv (.fn f caps)] (fun r => r = vint .i64 (idxB p l)) := by
  refine acall_of tok mixed 19 rfl (fn := Tryz.f106) (c := Tryz.f106.body.getD .skip) (by kernel_rfl) (by kernel_rfl) (by kernel_rfl) rfl 0 rfl ?_
  repeat' (first | refine o1 ?_ | refine o2 ?_ | refine k1 ?_ | refine k2 ?_ | refine k3 ?_ | refine k4 ?_ | refine k6 ?_ | refine k7 ?_ | refine k8 ?_ | refine And.intro ?_ ?_ | exact trivial | refine o3 ?_ | refine o4 ?_ | refine o5 ?_ | refine o6 ?_ | refine k5 ?_ | (intro h; first | exact Bool.noConfusion h | exact nz _ h | exact nl h | (simp at h; done) | (simp at h; first | (exfalso; omega) | skip) | skip) | (change retOk _ _ _ _; refine ret_pure rfl trivial ?_) | exact (rfl : allOne _ = true) | (refine (?_ : (0 : Int) ≤ _); omega) | (refine (?_ : _ ≠ _); omega) | (refine (?_ : srcLen _ = rowsLen _); rfl) | exact Nat.le_of_ble_eq_true rfl | exact (by kernel_rfl : drawOk _ _ = true) | refine eqv_len_map ?_ | refine eqv_size ?_ | refine eqv_put (eqv_ck ?_) | refine eqv_zero ?_ | refine eqv_wrap (by omega) (by omega) ?_ | refine eqv_u64 (by omega) (by omega) ?_ | refine eqv_u8 (by omega) (by omega) ?_ | refine eqv_to _ (set_map rfl rfl) ?_ | refine ⟨_, _, (by first | rfl | assumption), at_map (by assumption), ?_⟩ | refine ⟨_, _, (by first | rfl | assumption), (by assumption), ?_⟩ | refine ⟨_, at_map (by assumption), (by decide), ?_⟩ | refine ⟨_, at_map (by assumption), ?_⟩ | (refine (?_ : _ ≤ 140737488355328); simp [rowsLen] <;> omega) | (refine (?_ : _ ≤ 9223372036854775807); simp [rowsLen] <;> omega) | (refine (?_ : _ = rowsLen _); simp [rowsLen] <;> omega) | refine eqv_to _ (app_row rfl) (eqv_to _ app_len ?_) | refine eqv_to _ (app_first rfl) (eqv_to 1 rfl ?_) | refine idx_sl (at_map (by assumption)) (by omega) ?_ | refine idx_ms _ (by first | rfl | assumption) (by first | assumption | omega) ?_ | fail)
  refine loop_at (fun i : Nat => [(8, vint .i64 i)]) (fun _ => []) (fun i => i ≤ l.length ∧ ∀ j, j < i → ∀ y, l[j]? = some y → p y = false) (fun i => l.length - i) 0 ⟨by omega, fun j hj => by omega⟩ (by repeat' (first | exact trivial | exact rfl | exact ⟨_, rfl, ALe.refl⟩ | refine And.intro ?_ ?_)) (by repeat' (first | exact trivial | exact rfl | exact ⟨_, rfl, ALe.refl⟩ | refine And.intro ?_ ?_)) ?_
  intro i ⟨hi, hall⟩
  rcases Nat.lt_or_ge i l.length with hlt | hge
  · obtain ⟨x, hx⟩ := getE hlt
    have hm := List.mem_of_getElem? hx
    repeat' (first | refine o1 ?_ | refine o2 ?_ | refine k1 ?_ | refine k2 ?_ | refine k3 ?_ | refine k4 ?_ | refine k6 ?_ | refine k7 ?_ | refine k8 ?_ | refine And.intro ?_ ?_ | exact trivial | refine o3 ?_ | refine o4 ?_ | refine o5 ?_ | refine o6 ?_ | refine k5 ?_ | (intro h; first | exact Bool.noConfusion h | exact nz _ h | exact nl h | (simp at h; done) | (simp at h; first | (exfalso; omega) | skip) | skip) | (change retOk _ _ _ _; refine ret_pure rfl trivial ?_) | exact (rfl : allOne _ = true) | (refine (?_ : (0 : Int) ≤ _); omega) | (refine (?_ : _ ≠ _); omega) | (refine (?_ : srcLen _ = rowsLen _); rfl) | exact Nat.le_of_ble_eq_true rfl | exact (by kernel_rfl : drawOk _ _ = true) | refine eqv_len_map ?_ | refine eqv_size ?_ | refine eqv_put (eqv_ck ?_) | refine eqv_zero ?_ | refine eqv_wrap (by omega) (by omega) ?_ | refine eqv_u64 (by omega) (by omega) ?_ | refine eqv_u8 (by omega) (by omega) ?_ | refine eqv_to _ (set_map rfl rfl) ?_ | refine ⟨_, _, (by first | rfl | assumption), at_map (by assumption), ?_⟩ | refine ⟨_, _, (by first | rfl | assumption), (by assumption), ?_⟩ | refine ⟨_, at_map (by assumption), (by decide), ?_⟩ | refine ⟨_, at_map (by assumption), ?_⟩ | (refine (?_ : _ ≤ 140737488355328); simp [rowsLen] <;> omega) | (refine (?_ : _ ≤ 9223372036854775807); simp [rowsLen] <;> omega) | (refine (?_ : _ = rowsLen _); simp [rowsLen] <;> omega) | refine eqv_to _ (app_row rfl) (eqv_to _ app_len ?_) | refine eqv_to _ (app_first rfl) (eqv_to 1 rfl ?_) | refine idx_sl (at_map (by assumption)) (by omega) ?_ | refine idx_ms _ (by first | rfl | assumption) (by first | assumption | omega) ?_ | (change vcFun _ _ (_ ++ pvs _) _ _; refine call_cap rfl (by repeat' (first | trivial | refine And.intro ?_ ?_ | (show 0 + _ ≤ List.length _; simp))) (hf x hm) rfl ?_) | fail)
    all_goals first
      | exact ⟨i + 1, ⟨by omega, all_lt_succ hall fun y hy => by rw [hx] at hy; cases hy; assumption⟩, by omega, back [] rfl rfl trivial (by repeat' (first | exact trivial | exact rfl | exact ⟨_, rfl, ALe.refl⟩ | refine And.intro ?_ ?_))⟩
      | exact congrArg (vint .i64) (idxB_at hall hx (by assumption)).symm
  · repeat' (first | refine o1 ?_ | refine o2 ?_ | refine k1 ?_ | refine k2 ?_ | refine k3 ?_ | refine k4 ?_ | refine k6 ?_ | refine k7 ?_ | refine k8 ?_ | refine And.intro ?_ ?_ | exact trivial | refine o3 ?_ | refine o4 ?_ | refine o5 ?_ | refine o6 ?_ | refine k5 ?_ | (intro h; first | exact Bool.noConfusion h | exact nz _ h | exact nl h | (simp at h; done) | (simp at h; first | (exfalso; omega) | skip) | skip) | (change retOk _ _ _ _; refine ret_pure rfl trivial ?_) | exact (rfl : allOne _ = true) | (refine (?_ : (0 : Int) ≤ _); omega) | (refine (?_ : _ ≠ _); omega) | (refine (?_ : srcLen _ = rowsLen _); rfl) | exact Nat.le_of_ble_eq_true rfl | exact (by kernel_rfl : drawOk _ _ = true) | refine eqv_len_map ?_ | refine eqv_size ?_ | refine eqv_put (eqv_ck ?_) | refine eqv_zero ?_ | refine eqv_wrap (by omega) (by omega) ?_ | refine eqv_u64 (by omega) (by omega) ?_ | refine eqv_u8 (by omega) (by omega) ?_ | refine eqv_to _ (set_map rfl rfl) ?_ | refine ⟨_, _, (by first | rfl | assumption), at_map (by assumption), ?_⟩ | refine ⟨_, _, (by first | rfl | assumption), (by assumption), ?_⟩ | refine ⟨_, at_map (by assumption), (by decide), ?_⟩ | refine ⟨_, at_map (by assumption), ?_⟩ | (refine (?_ : _ ≤ 140737488355328); simp [rowsLen] <;> omega) | (refine (?_ : _ ≤ 9223372036854775807); simp [rowsLen] <;> omega) | (refine (?_ : _ = rowsLen _); simp [rowsLen] <;> omega) | refine eqv_to _ (app_row rfl) (eqv_to _ app_len ?_) | refine eqv_to _ (app_first rfl) (eqv_to 1 rfl ?_) | refine idx_sl (at_map (by assumption)) (by omega) ?_ | refine idx_ms _ (by first | rfl | assumption) (by first | assumption | omega) ?_ | fail)
    exact congrArg (vint .i64) (idxB_none fun j hj => hall j (by omega)).symm
theorem c_where1 (s : Sitting) (p : Placed) : PCall Tryz.prog 107 [ag s.row, .pv (.ia p.row)] (fun r => r = vbool (pB (timeOf s = p.time))) := by
  refine acall_of tok mixed 9 rfl (fn := Tryz.f107) (c := Tryz.f107.body.getD .skip) (by kernel_rfl) (by kernel_rfl) (by kernel_rfl) rfl 0 rfl ?_
  repeat' (first | refine o1 ?_ | refine o2 ?_ | refine k1 ?_ | refine k2 ?_ | refine k3 ?_ | refine k4 ?_ | refine k6 ?_ | refine k7 ?_ | refine k8 ?_ | refine And.intro ?_ ?_ | exact trivial | refine o3 ?_ | refine o4 ?_ | refine o5 ?_ | refine o6 ?_ | refine k5 ?_ | (intro h; first | exact Bool.noConfusion h | exact nz _ h | exact nl h | (simp at h; done) | (simp at h; first | (exfalso; omega) | skip) | skip) | (change retOk _ _ _ _; refine ret_pure rfl trivial ?_) | exact (rfl : allOne _ = true) | (refine (?_ : (0 : Int) ≤ _); omega) | (refine (?_ : _ ≠ _); omega) | (refine (?_ : srcLen _ = rowsLen _); rfl) | exact Nat.le_of_ble_eq_true rfl | exact (by kernel_rfl : drawOk _ _ = true) | refine eqv_len_map ?_ | refine eqv_size ?_ | refine eqv_put (eqv_ck ?_) | refine eqv_zero ?_ | refine eqv_wrap (by omega) (by omega) ?_ | refine eqv_u64 (by omega) (by omega) ?_ | refine eqv_u8 (by omega) (by omega) ?_ | refine eqv_to _ (set_map rfl rfl) ?_ | refine ⟨_, _, (by first | rfl | assumption), at_map (by assumption), ?_⟩ | refine ⟨_, _, (by first | rfl | assumption), (by assumption), ?_⟩ | refine ⟨_, at_map (by assumption), (by decide), ?_⟩ | refine ⟨_, at_map (by assumption), ?_⟩ | (refine (?_ : _ ≤ 140737488355328); simp [rowsLen] <;> omega) | (refine (?_ : _ ≤ 9223372036854775807); simp [rowsLen] <;> omega) | (refine (?_ : _ = rowsLen _); simp [rowsLen] <;> omega) | refine eqv_to _ (app_row rfl) (eqv_to _ app_len ?_) | refine eqv_to _ (app_first rfl) (eqv_to 1 rfl ?_) | refine idx_sl (at_map (by assumption)) (by omega) ?_ | refine idx_ms _ (by first | rfl | assumption) (by first | assumption | omega) ?_ | (change vcFunD _ _ _ _ _; refine callD_eq rfl (by repeat' (first | trivial | refine And.intro ?_ ?_ | (show 0 + _ ≤ List.length _; simp))) ALeL.refl (c_time s) rfl ?_) | fail)
  exact congrArg vbool time_beq
theorem c_where (x : Exams) (p : Placed) (h : examsE x = 0) : PCall Tryz.prog 64 [ag x.cells, ag p.row] (fun r => r = whereA x p) := by
  have hn := (fine_of h).sn
  have h1 := c_index_sit x.sits 107 [.ia p.row] (fun s => pB (timeOf s = p.time)) (by omega) (fun s _ => c_where1 s p)
  have hP : whereP x p ↔ 0 ≤ sitW x p.time ∧ 0 ≤ p.room ∧ p.room < x.rooms.length := ⟨fun k => k.2, fun k => ⟨h, k⟩⟩
  change PCall _ _ _ (fun r => r = vint .i64 (sitW x p.time)) at h1
  refine acall_of tok mixed 30 rfl (fn := Tryz.f64) (c := Tryz.f64.body.getD .skip) (by kernel_rfl) (by kernel_rfl) (by kernel_rfl) rfl 0 rfl ?_
  repeat' (first | refine o1 ?_ | refine o2 ?_ | refine k1 ?_ | refine k2 ?_ | refine k3 ?_ | refine k4 ?_ | refine k6 ?_ | refine k7 ?_ | refine k8 ?_ | refine And.intro ?_ ?_ | exact trivial | refine o3 ?_ | refine o4 ?_ | refine o5 ?_ | refine o6 ?_ | refine k5 ?_ | (intro h; first | exact Bool.noConfusion h | exact nz _ h | exact nl h | (simp at h; done) | (simp at h; first | (exfalso; omega) | skip) | skip) | (change retOk _ _ _ _; refine ret_pure rfl trivial ?_) | exact (rfl : allOne _ = true) | (refine (?_ : (0 : Int) ≤ _); omega) | (refine (?_ : _ ≠ _); omega) | (refine (?_ : srcLen _ = rowsLen _); rfl) | exact Nat.le_of_ble_eq_true rfl | exact (by kernel_rfl : drawOk _ _ = true) | refine eqv_len_map ?_ | refine eqv_size ?_ | refine eqv_put (eqv_ck ?_) | refine eqv_zero ?_ | refine eqv_wrap (by omega) (by omega) ?_ | refine eqv_u64 (by omega) (by omega) ?_ | refine eqv_u8 (by omega) (by omega) ?_ | refine eqv_to _ (set_map rfl rfl) ?_ | refine ⟨_, _, (by first | rfl | assumption), at_map (by assumption), ?_⟩ | refine ⟨_, _, (by first | rfl | assumption), (by assumption), ?_⟩ | refine ⟨_, at_map (by assumption), (by decide), ?_⟩ | refine ⟨_, at_map (by assumption), ?_⟩ | (refine (?_ : _ ≤ 140737488355328); simp [rowsLen] <;> omega) | (refine (?_ : _ ≤ 9223372036854775807); simp [rowsLen] <;> omega) | (refine (?_ : _ = rowsLen _); simp [rowsLen] <;> omega) | refine eqv_to _ (app_row rfl) (eqv_to _ app_len ?_) | refine eqv_to _ (app_first rfl) (eqv_to 1 rfl ?_) | refine idx_sl (at_map (by assumption)) (by omega) ?_ | refine idx_ms _ (by first | rfl | assumption) (by first | assumption | omega) ?_ | (change vcFun _ _ _ _ _; refine call_eq rfl (by repeat' (first | trivial | refine And.intro ?_ ?_ | (show 0 + _ ≤ List.length _; simp))) ALeL.refl (h1) rfl ?_) | fail)
  all_goals first
    | exact (whereA_f fun k => by have := hP.1 k; omega).symm
    | exact (whereA_t (hP.2 ⟨by omega, by omega, by omega⟩)).symm
end Go.Proofs.YtpnghlibmpainaaGreat.Cw

/-
  Plain: what a plan of examinations says that costs less than what is forbidden.
-/
namespace Go.Proofs.YtpnghlibmpainaaGreat.Cw
open Go Go.Cw Go.Proofs
set_option linter.unusedVariables false
set_option maxRecDepth 100000

/-- An exam's seat in a plan. -/
noncomputable def spotV (x : Exams) (pl : List Int) (k : Nat) : Option Seat := match x.exams[k]?, pl[k]? with
  | some e, some o => if o < 0 then none else (seatsV x e)[o.toNat]?
  | _, _ => none
noncomputable def mdl (x : Exams) : Model := ⟨clsX x, prsU (setsX x) (entX x) 7, cntS (setsX x) (wtX x) (mostX x) x.rooms.length x.sits.length, 7⟩
theorem build_mdl {x : Exams} (h : buildE x = 0) : buildM x = mdl x := by unfold buildM; rw [if_pos h]; rfl
theorem spot_at {x : Exams} {pl : List Int} {k : Nat} {e : Exam} {o : Nat} (he : x.exams[k]? = some e) (ho : pl[k]? = some (o : Int)) : spotV x pl k = (seatsV x e)[o]? := by
  unfold spotV; rw [he, ho]; dsimp only; rw [if_neg (by omega), Int.toNat_natCast]
theorem cls_at {x : Exams} {k : Nat} {e : Exam} (he : x.exams[k]? = some e) : (clsX x)[k]? = some ((seatsV x e).map (optS x)) := by unfold clsX; rw [List.getElem?_map, he]; rfl
theorem sets_at {x : Exams} {k : Nat} {e : Exam} (he : x.exams[k]? = some e) : (setsX x)[k]? = some (seatsV x e) := by unfold setsX; rw [List.getElem?_map, he]; rfl
theorem spot_ex {x : Exams} {pl : List Int} {k : Nat} {e : Exam} (hp : planP (mdl x) pl) (he : x.exams[k]? = some e) : ∃ (o : Nat) (q : Seat), pl[k]? = some (o : Int) ∧ (seatsV x e)[o]? = some q ∧ spotV x pl k = some q := by
  have hk := (List.getElem?_eq_some_iff.1 he).1
  have hlen : pl.length = x.exams.length := by rw [hp.1]; exact List.length_map _
  obtain ⟨o, ho⟩ := getE (show k < pl.length by omega)
  obtain ⟨-, h2, l, h3, h4⟩ := hp.2 k (by omega) o ho
  obtain ⟨n, rfl⟩ := Int.eq_ofNat_of_zero_le h2
  rw [Int.toNat_natCast] at h3
  have h5 : (mdl x).classes[k]? = some ((seatsV x e).map (optS x)) := cls_at he
  rw [h5] at h3
  injection h3 with h3
  subst h3
  rw [List.length_map] at h4
  obtain ⟨q, hq⟩ := getE (show n < (seatsV x e).length by omega)
  exact ⟨n, q, ho, hq, by rw [spot_at he ho, hq]⟩
/-- What a seat of an exam is. -/
theorem seat_in {x : Exams} {e : Exam} {q : Seat} (h : q ∈ seatsV x e) : ∃ s r, x.sits[q.sit]? = some s ∧ x.rooms[q.room]? = some r ∧ suitP e r s := by
  obtain ⟨i, hi, h⟩ := gr_mem.1 h
  unfold seatsI at h
  split at h
  · rename_i s hs
    obtain ⟨k, r, hk, hr, hf⟩ := upto_mem.1 h
    unfold seatF at hf
    split at hf
    · rename_i hsu
      injection hf with hf
      subst hf
      exact ⟨s, r, hs, hr, by simpa using hsu⟩
    · cases hf
  · cases h
/-- A table's entry. -/
theorem gr_get {α : Type} {F : Nat → List α} {m : Nat} : ∀ {n : Nat}, (∀ i, i < n → (F i).length = m) → ∀ {a b : Nat}, a < n → b < m → (gr F n)[a * m + b]? = (F a)[b]?
  | 0, _, _, _, h, _ => absurd h (Nat.not_lt_zero _)
  | n + 1, hF, a, b, ha, hb => by
    have hl : (gr F n).length = n * m := by
      clear ha
      have : ∀ k, k ≤ n → (gr F k).length = k * m := fun k => by
        induction k with
        | zero => intro _; simp [gr]
        | succ k ih => intro hk; rw [gr_succ, List.length_append, ih (by omega), hF k (by omega), Nat.succ_mul]
      exact this n (Nat.le_refl _)
    rw [gr_succ]
    rcases Nat.lt_or_ge a n with h | h
    · have h1 : (a + 1) * m ≤ n * m := Nat.mul_le_mul h (Nat.le_refl _)
      rw [Nat.succ_mul] at h1
      rw [List.getElem?_append_left (by omega), gr_get (fun i hi => hF i (by omega)) h hb]
    · obtain rfl : a = n := by omega
      rw [List.getElem?_append_right (by omega), hl, show a * m + b - a * m = b by omega]
theorem tab_at {E : Ent} {u i k a b : Nat} {A B : List Seat} {s t : Seat} (ha : A[a]? = some s) (hb : B[b]? = some t) : (tabS E u i k A B)[a * B.length + b]? = some (E u i k s t) := by
  unfold tabS
  have ha1 := (List.getElem?_eq_some_iff.1 ha).1
  have hb1 := (List.getElem?_eq_some_iff.1 hb).1
  rw [gr_get (m := B.length) (fun i hi => by
    obtain ⟨s, hs⟩ : ∃ s, A[i]? = some s := ⟨_, List.getElem?_eq_getElem hi⟩
    rw [rowS_at hs, List.length_map]) ha1 hb1, rowS_get ha hb]
section
variable {x : Exams} {pl : List Int} (hp : planP (mdl x) pl) (hT : ∀ t ∈ termsV (mdl x) pl, t.2 < 1099511627776)
include hp hT
/-- No entry of two exams is forbidden. -/
theorem ent_lt {i k u : Nat} {e f : Exam} {q p : Seat} (hik : i < k) (hu : u < 7) (he : x.exams[i]? = some e) (hf : x.exams[k]? = some f) (hq : spotV x pl i = some q) (hr : spotV x pl k = some p) : entX x u i k q p ≠ 1099511627776 := by
  intro hE
  obtain ⟨a, q', ha, ha2, ha3⟩ := spot_ex hp he
  rw [hq] at ha3; injection ha3 with ha3; subst ha3
  obtain ⟨b, p', hb, hb2, hb3⟩ := spot_ex hp hf
  rw [hr] at hb3; injection hb3 with hb3; subst hb3
  have ht := tab_at (E := entX x) (u := u) (i := i) (k := k) ha2 hb2
  rw [hE] at ht
  have hk := (List.getElem?_eq_some_iff.1 hf).1
  have hps : pairS (setsX x) (entX x) u i k = some ⟨i, k, u, tabS (entX x) u i k (seatsV x e) (seatsV x f)⟩ := by
    unfold pairS
    rw [sets_at he, sets_at hf]
    dsimp only
    rw [if_pos ⟨hik, List.any_eq_true.2 ⟨_, List.mem_of_getElem? ht, by decide⟩⟩]
  have hSl : (setsX x).length = x.exams.length := List.length_map _
  have hmem : (⟨i, k, u, tabS (entX x) u i k (seatsV x e) (seatsV x f)⟩ : Pair) ∈ (mdl x).pairs :=
    gr_mem.2 ⟨u, hu, gr_mem.2 ⟨i, by omega, fm_mem.2 ⟨k, by omega, hps⟩⟩⟩
  obtain ⟨j, hj⟩ := List.getElem?_of_mem hmem
  have hcl : (mdl x).classes[((k : Nat) : Int).toNat]? = some ((seatsV x f).map (optS x)) := by rw [Int.toNat_natCast]; exact cls_at hf
  have h1 : pairT (mdl x) pl ⟨i, k, u, tabS (entX x) u i k (seatsV x e) (seatsV x f)⟩ = some (((u : Nat) : Int), entV (mdl x) ⟨i, k, u, tabS (entX x) u i k (seatsV x e) (seatsV x f)⟩ a b) :=
    by unfold pairT; dsimp only; rw [Int.toNat_natCast, Int.toNat_natCast, ha, hb]; dsimp only; rw [if_pos ⟨Int.natCast_nonneg _, Int.natCast_nonneg _⟩]
  have h2 : entV (mdl x) ⟨i, k, u, tabS (entX x) u i k (seatsV x e) (seatsV x f)⟩ a b = 1099511627776 := by
    unfold entV; dsimp only; rw [hcl]; dsimp only
    rw [List.length_map, show ((a : Int) * (seatsV x f).length + b).toNat = a * (seatsV x f).length + b from by rw [← Int.natCast_mul, ← Int.natCast_add, Int.toNat_natCast], ht]; rfl
  rw [h2] at h1
  have := hT _ (List.mem_append_left _ (List.mem_append_right _ (upto_mem.2 ⟨j, _, (List.getElem?_eq_some_iff.1 hj).1, hj, h1⟩)))
  exact Int.lt_irrefl _ this
end
end Go.Proofs.YtpnghlibmpainaaGreat.Cw

/-
  Plain: the places of a plan of examinations; a plan that is not forbidden is feasible.
-/
namespace Go.Proofs.YtpnghlibmpainaaGreat.Cw
open Go Go.Cw Go.Proofs
set_option linter.unusedVariables false
set_option maxRecDepth 100000

theorem pow2_inj {a b : Nat} (h : (2 : Int) ^ a = 2 ^ b) : a = b := by
  have h : (2 : Nat) ^ a = 2 ^ b := by
    have e1 : ((2 ^ a : Nat) : Int) = (2 : Int) ^ a := by simp
    have e2 : ((2 ^ b : Nat) : Int) = (2 : Int) ^ b := by simp
    omega
  rcases Nat.lt_trichotomy a b with g | g | g
  · have := Nat.pow_lt_pow_right (a := 2) (by omega) g; omega
  · exact g
  · have := Nat.pow_lt_pow_right (a := 2) (by omega) g; omega
theorem time_inj {s t : Sitting} (hs : timedP s) (ht : timedP t) (h : timeOf s = timeOf t) : s.day = t.day ∧ s.start = t.start := by
  rw [timeOf_t hs, timeOf_t ht] at h
  injection h with h1 h2 h3 h4
  have := pow2_inj h1
  have a1 := hs.1
  have a2 := ht.1
  exact ⟨by omega, h3⟩
/-- Where the place of a seat is. -/
theorem where_seat {x : Exams} {q : Seat} {s : Sitting} {r : Room} (h0 : examsE x = 0) (hs : x.sits[q.sit]? = some s) (hr : x.rooms[q.room]? = some r) : whereA x (optS x q).place = .tup [vint .i64 q.sit, vint .i64 q.room, vbool true] := by
  have hf := fine_of h0
  have hp : (optS x q).place = ⟨timeOf s, q.room⟩ := by unfold optS; rw [hs]
  have hw : sitW x (timeOf s) = q.sit := by
    unfold sitW
    refine idxB_at (fun j hj y hy => ?_) hs (pB_t rfl)
    refine pB_f fun e => ?_
    obtain ⟨e1, e2⟩ := time_inj (hf.sl _ _ hy) (hf.sl _ _ hs) e
    have := hf.so j q.sit y s hj hy hs
    unfold lexP at this
    omega
  have hrl := (List.getElem?_eq_some_iff.1 hr).1
  rw [hp]
  have hwp : whereP x ⟨timeOf s, q.room⟩ := ⟨h0, by rw [hw]; exact Int.natCast_nonneg _, Int.natCast_nonneg _, by show (q.room : Int) < _; omega⟩
  rw [whereA_t hwp]
  show AV.tup [vint .i64 (sitW x (timeOf s)), _, _] = _
  rw [hw]
section
variable {x : Exams} {pl : List Int}
theorem places_at (hp : planP (mdl x) pl) : ∀ n, n ≤ x.exams.length → (placesTo (mdl x) pl n).length = n ∧ ∀ i, i < n → ∀ q, spotV x pl i = some q → (placesTo (mdl x) pl n)[i]? = some (optS x q).place
  | 0, _ => ⟨rfl, fun i hi => absurd hi (Nat.not_lt_zero _)⟩
  | n + 1, hn => by
    obtain ⟨h1, h2⟩ := places_at hp n (by omega)
    obtain ⟨e, he⟩ := getE (show n < x.exams.length by omega)
    obtain ⟨o, q, ho, hq, hs⟩ := spot_ex hp he
    have hx : ((seatsV x e).map (optS x))[o]? = some (optS x q) := by rw [List.getElem?_map, hq]; rfl
    have hnx := places_next (m := mdl x) (plan := pl) (i := n) (n := o) (l := (seatsV x e).map (optS x)) (x := optS x q) (cls_at he) ho hx
    rw [hnx]
    refine ⟨by rw [List.length_append, h1]; rfl, fun i hi q' hq' => ?_⟩
    rcases Nat.lt_or_ge i n with g | g
    · rw [List.getElem?_append_left (by omega)]; exact h2 i g q' hq'
    · obtain rfl : i = n := by omega
      rw [hs] at hq'; injection hq' with hq'; subst hq'
      rw [List.getElem?_append_right (by omega), h1, Nat.sub_self]; rfl
theorem rel_of {i k : Nat} {q p : Seat} {s t : Sitting} {e f : Exam} {u : Nat} (hs : x.sits[q.sit]? = some s) (ht : x.sits[p.sit]? = some t) (he : x.exams[i]? = some e) (hf : x.exams[k]? = some f) : entX x u i k q p = entC x u q p s t e f := entX_at hs ht he hf
end
section
variable {x : Exams} {pl : List Int} (h0 : examsE x = 0) (hp : planP (mdl x) pl) (hT : ∀ t ∈ termsV (mdl x) pl, t.2 < 1099511627776)
include h0 hp hT
/-- Two exams whose sittings overlap have nobody in common. -/
theorem nobody {i k : Nat} {e f : Exam} {q p : Seat} {s t : Sitting} (hik : i ≠ k) (he : x.exams[i]? = some e) (hf : x.exams[k]? = some f) (hq : spotV x pl i = some q) (hr : spotV x pl k = some p) (hs : x.sits[q.sit]? = some s) (ht : x.sits[p.sit]? = some t) (hrel : relE x q.sit p.sit s t = 0) : comN e.studs f.studs = 0 := by
  have hfi := fine_of h0
  apply Classical.byContradiction
  intro hc
  rcases Nat.lt_or_ge i k with g | g
  · refine ent_lt hp hT g (show 0 < 7 by decide) he hf hq hr ?_
    rw [rel_of hs ht he hf]
    unfold entC
    rw [if_pos ⟨rfl, by omega, hrel⟩]
  · refine ent_lt hp hT (show k < i by omega) (show 0 < 7 by decide) hf he hr hq ?_
    rw [rel_of ht hs hf he]
    unfold entC
    rw [if_pos ⟨rfl, by rw [comN_comm (hfi.el _ _ hf).2 (hfi.el _ _ he).2]; omega, by rw [relE_comm]; exact hrel⟩]
end
/-- How many students sit in a room in a sitting, of the first exams. -/
noncomputable def inSeat (x : Exams) (pl : List Int) (a r k : Nat) : Int := match spotV x pl k with
  | some q => if seatIs a r q then wtX x k else 0
  | none => 0
noncomputable def sumS (x : Exams) (pl : List Int) (a r n : Nat) : Int := ((List.range n).map (inSeat x pl a r)).sum
end Go.Proofs.YtpnghlibmpainaaGreat.Cw

/-
  The law on feasible plans of examinations.
-/
namespace Go.Proofs.YtpnghlibmpainaaGreat.Cw
open Go Go.Cw Go.Proofs
set_option linter.unusedVariables false
set_option maxRecDepth 100000
set_option maxHeartbeats 8000000

theorem mdl_ok {x : Exams} (h : MadeX x) : modelE (mdl x) = 0 := by
  rw [← build_mdl (made_build h)]
  exact valid_build (by have := h.en; omega) (made_build h)
theorem mdl_laid {x : Exams} (h : MadeX x) : Laid (mdl x) := by
  rw [← build_mdl (made_build h)]
  exact (build_laid (by have := h.en; omega)).1
theorem mdl_loads {x : Exams} (h : MadeX x) : ∀ c ∈ (mdl x).counts, c.loads.length ≤ 100 := fun c hc => by
  obtain ⟨a, -, hc⟩ := gr_mem.1 hc
  obtain ⟨r, -, hc⟩ := fm_mem.1 hc
  unfold countS at hc
  split at hc
  · injection hc with hc
    subst hc
    have hSl : (setsX x).length = x.exams.length := List.length_map _
    have := h.en
    exact Nat.le_trans upto_len (by omega)
  · cases hc
theorem c_buildG (x : Exams) (h : MadeX x) : PCall Tryz.prog 20 [ag x.cells] (fun a => a = .tup [ag (mdl x).cells, vint .i64 0]) := by
  have := c_build x (by have := h.en; omega)
  rwa [made_build h, build_mdl (made_build h)] at this
theorem le_args2 {a b c : AV} (h : ALe b c) : ALeL [a, b] [a, c] := ⟨ALe.refl, h, trivial⟩
end Go.Proofs.YtpnghlibmpainaaGreat.Cw

/-
  Made plans of any model.
-/
namespace Go.Proofs.YtpnghlibmpainaaGreat.Cw
open Go Go.Cw Go.Proofs
set_option linter.unusedVariables false
set_option maxRecDepth 100000
set_option maxHeartbeats 4000000

theorem call_nextA {t : List Int} {k : Nat} {n : Int} {H : Heap} (i : Nat) {K : AV → Heap → Prop} (hi : H[i]? = some (dice t k)) (ht : t.length ≤ 400) (hk : k ≤ t.length) (hn : n ≤ 9223372036854775807)
    (hK : ∀ v k2, k2 ≤ t.length → K (vint .i64 v) (H.set i (dice t k2))) : vcFun Tryz.prog 28 [.ptr i 2 0 0, vint .i64 n] H K := by
  refine call_one (i := i) hi (fun _ _ => rfl) [.ptr 0 2 0 0, vint .i64 n] rfl (c_next t k n ht hk hn) ?_
  rintro r H' ⟨rfl, rfl⟩
  exact ⟨_, rfl, fun _ _ => rfl, fun _ _ => rfl, hK _ _ (nextK_le hk)⟩
theorem c_dplanX (t : List Int) (k : Nat) (ht : t.length ≤ 400) (hk : k ≤ t.length) (m : Model) (hm : sizedP m) :
    ACall Tryz.prog 33 [.ptr 0 2 0 0, ag m.cells, vbool true] [dice t k] (fun r H' => ∃ (q : PV) (l : List Int) (k' : Nat), k' ≤ t.length ∧ PLe q (encInts l) ∧ r = .pv q ∧ H' = [dice t k']) := by
  have hcn := hm.1
  refine acall_of tok mixed 39 rfl (fn := Tryz.f33) (c := Tryz.f33.body.getD .skip) (by kernel_rfl) (by kernel_rfl) (by kernel_rfl) rfl 1 rfl ?_
  repeat' (first | refine o1 ?_ | refine o2 ?_ | refine k1 ?_ | refine k2 ?_ | refine k3 ?_ | refine k4 ?_ | refine k6 ?_ | refine k7 ?_ | refine k8 ?_ | refine And.intro ?_ ?_ | exact trivial | refine o3 ?_ | refine o4 ?_ | refine o5 ?_ | refine o6 ?_ | refine k5 ?_ | (intro h; first | exact Bool.noConfusion h | exact nz _ h | exact nl h | (simp at h; done) | (simp at h; first | (exfalso; omega) | skip) | skip) | (change retOk _ _ _ _; refine ret_pure rfl trivial ?_) | exact (rfl : allOne _ = true) | (refine (?_ : (0 : Int) ≤ _); omega) | (refine (?_ : _ ≠ _); omega) | (refine (?_ : srcLen _ = rowsLen _); rfl) | exact Nat.le_of_ble_eq_true rfl | exact (by kernel_rfl : drawOk _ _ = true) | refine eqv_len_map ?_ | refine eqv_size ?_ | refine eqv_put (eqv_ck ?_) | refine eqv_zero ?_ | refine eqv_wrap (by omega) (by omega) ?_ | refine eqv_u64 (by omega) (by omega) ?_ | refine eqv_u8 (by omega) (by omega) ?_ | refine eqv_to _ (set_map rfl rfl) ?_ | refine ⟨_, _, (by first | rfl | assumption), at_map (by assumption), ?_⟩ | refine ⟨_, _, (by first | rfl | assumption), (by assumption), ?_⟩ | refine ⟨_, at_map (by assumption), (by decide), ?_⟩ | refine ⟨_, at_map (by assumption), ?_⟩ | (refine (?_ : _ ≤ 140737488355328); simp [rowsLen] <;> omega) | (refine (?_ : _ ≤ 9223372036854775807); simp [rowsLen] <;> omega) | (refine (?_ : _ = rowsLen _); simp [rowsLen] <;> omega) | refine eqv_to _ (app_row rfl) (eqv_to _ app_len ?_) | refine eqv_to _ (app_first rfl) (eqv_to 1 rfl ?_) | refine idx_sl (at_map (by assumption)) (by omega) ?_ | refine idx_ms _ (by first | rfl | assumption) (by first | assumption | omega) ?_ | fail)
  refine loop_for (fun X : Nat × Nat × List Int => [(0, .ptr 0 2 0 0), (2, vbool true), (4, .ptr 1 4 0 0), (7, slP 2 1 (X.2.2.map eiI)), (8, vint .i64 X.1)]) (fun X => [dice t X.2.1, mbox m, obP 3 1 (X.2.2.map eiI)]) (fun X => X.1 ≤ m.classes.length ∧ X.2.1 ≤ t.length ∧ X.2.2.length = X.1) (fun X => m.classes.length - X.1) (0, k, []) ⟨Nat.zero_le _, hk, rfl⟩ ?_ ?_
  · exact back [0, 1, 2] rfl rfl (by repeat' (first | exact trivial | exact rfl | exact ren_get rfl | refine kept_ob rfl ?_ | exact ⟨_, rfl, ALe.refl⟩ | refine And.intro ?_ ?_)) (by repeat' (first | exact trivial | exact rfl | exact ren_get rfl | refine kept_ob rfl ?_ | exact ⟨_, rfl, ALe.refl⟩ | refine And.intro ?_ ?_))
  rintro ⟨i, k, l⟩ ⟨p1, p2, p3⟩
  dsimp only at p1 p2 p3 ⊢
  rcases Nat.lt_or_ge i m.classes.length with hi | hi
  · obtain ⟨c, hc⟩ := getE hi
    have hcl := hm.2.1 c (List.mem_of_getElem? hc)
    repeat' (first | (refine fv_sl ?_) | (refine fh_ob ?_) | (refine idx_sl (k := i) (at_map hc) (by omega) ?_) | ((change vcFun _ _ _ _ _; refine call_nextA 0 rfl (by assumption) (by assumption) (by omega) ?_; intro v kq hkq)) | ((refine o_app rfl rfl rfl rfl rfl rfl rfl rfl rfl rfl rfl (by rw [List.length_map]; omega) (by rw [List.length_map]; omega) ?_)) | refine o1 ?_ | refine o2 ?_ | refine k1 ?_ | refine k2 ?_ | refine k3 ?_ | refine k4 ?_ | refine k6 ?_ | refine k7 ?_ | refine k8 ?_ | refine And.intro ?_ ?_ | exact trivial | refine o3 ?_ | refine o4 ?_ | refine o5 ?_ | refine o6 ?_ | refine k5 ?_ | (intro h; first | exact Bool.noConfusion h | exact nz _ h | exact nl h | (simp at h; done) | (simp at h; first | (exfalso; omega) | skip) | skip) | (change retOk _ _ _ _; refine ret_pure rfl trivial ?_) | exact (rfl : allOne _ = true) | (refine (?_ : (0 : Int) ≤ _); omega) | (refine (?_ : _ ≠ _); omega) | (refine (?_ : srcLen _ = rowsLen _); rfl) | exact Nat.le_of_ble_eq_true rfl | exact (by kernel_rfl : drawOk _ _ = true) | refine eqv_len_map ?_ | refine eqv_size ?_ | refine eqv_put (eqv_ck ?_) | refine eqv_zero ?_ | refine eqv_wrap (by omega) (by omega) ?_ | refine eqv_u64 (by omega) (by omega) ?_ | refine eqv_u8 (by omega) (by omega) ?_ | refine eqv_to _ (set_map rfl rfl) ?_ | refine ⟨_, _, (by first | rfl | assumption), at_map (by assumption), ?_⟩ | refine ⟨_, _, (by first | rfl | assumption), (by assumption), ?_⟩ | refine ⟨_, at_map (by assumption), (by decide), ?_⟩ | refine ⟨_, at_map (by assumption), ?_⟩ | (refine (?_ : _ ≤ 140737488355328); simp [rowsLen] <;> omega) | (refine (?_ : _ ≤ 9223372036854775807); simp [rowsLen] <;> omega) | (refine (?_ : _ = rowsLen _); simp [rowsLen] <;> omega) | refine eqv_to _ (app_row rfl) (eqv_to _ app_len ?_) | refine eqv_to _ (app_first rfl) (eqv_to 1 rfl ?_) | refine idx_sl (at_map (by assumption)) (by omega) ?_ | refine idx_ms _ (by first | rfl | assumption) (by first | assumption | omega) ?_ | fail)
    refine ⟨(i + 1, kq, l ++ [v]), ⟨hi, hkq, by rw [List.length_append, p3]; rfl⟩, by dsimp only; omega, ?_⟩
    dsimp only
    rw [map_snoc, sl_app, ob_app]
    exact back [0, 1, 4] rfl rfl (by repeat' (first | exact trivial | exact rfl | exact ren_get rfl | refine kept_ob rfl ?_ | exact ⟨_, rfl, ALe.refl⟩ | refine And.intro ?_ ?_)) (by repeat' (first | exact trivial | exact rfl | exact ren_get rfl | refine kept_ob rfl ?_ | exact ⟨_, rfl, ALe.refl⟩ | refine And.intro ?_ ?_))
  · obtain rfl : i = m.classes.length := by omega
    cases l with
    | nil =>
      repeat' (first | refine o1 ?_ | refine o2 ?_ | refine k1 ?_ | refine k2 ?_ | refine k3 ?_ | refine k4 ?_ | refine k6 ?_ | refine k7 ?_ | refine k8 ?_ | refine And.intro ?_ ?_ | exact trivial | refine o3 ?_ | refine o4 ?_ | refine o5 ?_ | refine o6 ?_ | refine k5 ?_ | (intro h; first | exact Bool.noConfusion h | exact nz _ h | exact nl h | (simp at h; done) | (simp at h; first | (exfalso; omega) | skip) | skip) | (change retOk _ _ _ _; refine ret_pure rfl trivial ?_) | exact (rfl : allOne _ = true) | (refine (?_ : (0 : Int) ≤ _); omega) | (refine (?_ : _ ≠ _); omega) | (refine (?_ : srcLen _ = rowsLen _); rfl) | exact Nat.le_of_ble_eq_true rfl | exact (by kernel_rfl : drawOk _ _ = true) | refine eqv_len_map ?_ | refine eqv_size ?_ | refine eqv_put (eqv_ck ?_) | refine eqv_zero ?_ | refine eqv_wrap (by omega) (by omega) ?_ | refine eqv_u64 (by omega) (by omega) ?_ | refine eqv_u8 (by omega) (by omega) ?_ | refine eqv_to _ (set_map rfl rfl) ?_ | refine ⟨_, _, (by first | rfl | assumption), at_map (by assumption), ?_⟩ | refine ⟨_, _, (by first | rfl | assumption), (by assumption), ?_⟩ | refine ⟨_, at_map (by assumption), (by decide), ?_⟩ | refine ⟨_, at_map (by assumption), ?_⟩ | (refine (?_ : _ ≤ 140737488355328); simp [rowsLen] <;> omega) | (refine (?_ : _ ≤ 9223372036854775807); simp [rowsLen] <;> omega) | (refine (?_ : _ = rowsLen _); simp [rowsLen] <;> omega) | refine eqv_to _ (app_row rfl) (eqv_to _ app_len ?_) | refine eqv_to _ (app_first rfl) (eqv_to 1 rfl ?_) | refine idx_sl (at_map (by assumption)) (by omega) ?_ | refine idx_ms _ (by first | rfl | assumption) (by first | assumption | omega) ?_ | fail)
      exact ret_obj [0] [dice t k] rfl rfl ⟨rfl, trivial⟩ (r' := .pv (.val (.slice none 0 0))) rfl ⟨_, [], k, p2, PLe.nil, rfl, rfl⟩
    | cons a l =>
      dsimp only [slP, obP, List.map]
      repeat' (first | refine o1 ?_ | refine o2 ?_ | refine k1 ?_ | refine k2 ?_ | refine k3 ?_ | refine k4 ?_ | refine k6 ?_ | refine k7 ?_ | refine k8 ?_ | refine And.intro ?_ ?_ | exact trivial | refine o3 ?_ | refine o4 ?_ | refine o5 ?_ | refine o6 ?_ | refine k5 ?_ | (intro h; first | exact Bool.noConfusion h | exact nz _ h | exact nl h | (simp at h; done) | (simp at h; first | (exfalso; omega) | skip) | skip) | (change retOk _ _ _ _; refine ret_pure rfl trivial ?_) | exact (rfl : allOne _ = true) | (refine (?_ : (0 : Int) ≤ _); omega) | (refine (?_ : _ ≠ _); omega) | (refine (?_ : srcLen _ = rowsLen _); rfl) | exact Nat.le_of_ble_eq_true rfl | exact (by kernel_rfl : drawOk _ _ = true) | refine eqv_len_map ?_ | refine eqv_size ?_ | refine eqv_put (eqv_ck ?_) | refine eqv_zero ?_ | refine eqv_wrap (by omega) (by omega) ?_ | refine eqv_u64 (by omega) (by omega) ?_ | refine eqv_u8 (by omega) (by omega) ?_ | refine eqv_to _ (set_map rfl rfl) ?_ | refine ⟨_, _, (by first | rfl | assumption), at_map (by assumption), ?_⟩ | refine ⟨_, _, (by first | rfl | assumption), (by assumption), ?_⟩ | refine ⟨_, at_map (by assumption), (by decide), ?_⟩ | refine ⟨_, at_map (by assumption), ?_⟩ | (refine (?_ : _ ≤ 140737488355328); simp [rowsLen] <;> omega) | (refine (?_ : _ ≤ 9223372036854775807); simp [rowsLen] <;> omega) | (refine (?_ : _ = rowsLen _); simp [rowsLen] <;> omega) | refine eqv_to _ (app_row rfl) (eqv_to _ app_len ?_) | refine eqv_to _ (app_first rfl) (eqv_to 1 rfl ?_) | refine idx_sl (at_map (by assumption)) (by omega) ?_ | refine idx_ms _ (by first | rfl | assumption) (by first | assumption | omega) ?_ | fail)
      exact ret_conv [0] [dice t k] rfl rfl ⟨rfl, trivial⟩ rfl (by repeat' (first | trivial | refine And.intro ?_ ?_ | (show 0 + _ ≤ List.length _; simp))) rfl ⟨_, a :: l, k, p2, (by rw [List.drop_zero, List.take_of_length_le (by simp)]; exact PLe.refl), rfl, rfl⟩
end Go.Proofs.YtpnghlibmpainaaGreat.Cw

/-
  Contracts: the strain of a student.
-/
namespace Go.Proofs.YtpnghlibmpainaaGreat.Cw
open Go Go.Cw Go.Proofs
set_option linter.unusedVariables false
set_option maxRecDepth 100000
set_option maxHeartbeats 8000000

/-- Sittings of the examinations. -/
def SitsOk (x : Exams) (a : List Nat) : Prop := a.length = x.exams.length ∧ ∀ p ∈ a, p < x.sits.length
def cntRow (s : Str) (a b c : Nat) : List PV := [es s, ei a, ei b, ei c]
theorem c_strain (x : Exams) (a : List Nat) (s : Str) (h : examsE x = 0) (ha : SitsOk x a) (h6 : x.exams.length ≤ 6) : PCall Tryz.prog 67 [ag x.cells, .pv (.sl 1 (a.map eiN)), .pv (es s)] (fun r => r = ag (strainR x a s)) := by
  obtain ⟨hal, has⟩ := ha
  have hf := fine_of h
  refine acall_of tok mixed 69 rfl (fn := Tryz.f67) (c := Tryz.f67.body.getD .skip) (by kernel_rfl) (by kernel_rfl) (by kernel_rfl) rfl 0 rfl ?_
  repeat' (first | refine o1 ?_ | refine o2 ?_ | refine k1 ?_ | refine k2 ?_ | refine k3 ?_ | refine k4 ?_ | refine k6 ?_ | refine k7 ?_ | refine k8 ?_ | refine And.intro ?_ ?_ | exact trivial | refine o3 ?_ | refine o4 ?_ | refine o5 ?_ | refine o6 ?_ | refine k5 ?_ | (intro h; first | exact Bool.noConfusion h | exact nz _ h | exact nl h | (simp at h; done) | (simp at h; first | (exfalso; omega) | skip) | skip) | (change retOk _ _ _ _; refine ret_pure rfl trivial ?_) | exact (rfl : allOne _ = true) | (refine (?_ : (0 : Int) ≤ _); omega) | (refine (?_ : _ ≠ _); omega) | (refine (?_ : srcLen _ = rowsLen _); rfl) | exact Nat.le_of_ble_eq_true rfl | exact (by kernel_rfl : drawOk _ _ = true) | refine eqv_len_map ?_ | refine eqv_size ?_ | refine eqv_put (eqv_ck ?_) | refine eqv_zero ?_ | refine eqv_wrap (by omega) (by omega) ?_ | refine eqv_u64 (by omega) (by omega) ?_ | refine eqv_u8 (by omega) (by omega) ?_ | refine eqv_to _ (set_map rfl rfl) ?_ | refine ⟨_, _, (by first | rfl | assumption), at_map (by assumption), ?_⟩ | refine ⟨_, _, (by first | rfl | assumption), (by assumption), ?_⟩ | refine ⟨_, at_map (by assumption), (by decide), ?_⟩ | refine ⟨_, at_map (by assumption), ?_⟩ | (refine (?_ : _ ≤ 140737488355328); simp [rowsLen] <;> omega) | (refine (?_ : _ ≤ 9223372036854775807); simp [rowsLen] <;> omega) | (refine (?_ : _ = rowsLen _); simp [rowsLen] <;> omega) | refine eqv_to _ (app_row rfl) (eqv_to _ app_len ?_) | refine eqv_to _ (app_first rfl) (eqv_to 1 rfl ?_) | refine idx_sl (at_map (by assumption)) (by omega) ?_ | refine idx_ms _ (by first | rfl | assumption) (by first | assumption | omega) ?_ | fail)
  refine loop_for (fun i : Nat => [(1, .pv (.sl 1 (a.map eiN))), (2, .pv (es s)), (3, .ptr 0 8 0 0), (6, .ptr 1 4 0 0), (7, .ptr 2 4 0 0), (8, slP 3 1 ((mineL x a s i).map eiN)), (16, .pv (.sl 4 (x.exams.map Exam.row))), (17, vint .i64 x.exams.length), (18, vint .i64 i)])
    (fun i => [some ⟨33, 8, false, .box (pvs x.cells)⟩, some ⟨88, 4, false, .box (pvs [.val (.string ⟨#[]⟩), ei 0, ei 0, ei 0])⟩, some ⟨88, 4, false, .box (pvs (cntRow s (totS x a s 2 i) (totS x a s 3 i) (totS x a s 4 i)))⟩, obP 3 1 ((mineL x a s i).map eiN)])
    (fun i => i ≤ x.exams.length) (fun i => x.exams.length - i) 0 (Nat.zero_le _) ?_ ?_
  · exact back [0, 1, 2, 3] rfl rfl (by repeat' (first | exact trivial | exact rfl | exact ren_get rfl | refine kept_ob rfl ?_ | exact ⟨_, rfl, ALe.refl⟩ | refine And.intro ?_ ?_)) (by repeat' (first | exact trivial | exact rfl | exact ren_get rfl | refine kept_ob rfl ?_ | exact ⟨_, rfl, ALe.refl⟩ | refine And.intro ?_ ?_))
  intro i hi
  have hml := mineL_len (x := x) (a := a) (s := s) (i := i)
  have t2 := totS_le (x := x) (a := a) (s := s) (r := 2) (n := i)
  have t3 := totS_le (x := x) (a := a) (s := s) (r := 3) (n := i)
  have t4 := totS_le (x := x) (a := a) (s := s) (r := 4) (n := i)
  have hii : i * i ≤ 6 * 6 := Nat.mul_le_mul (by omega) (by omega)
  rcases Nat.lt_or_ge i x.exams.length with hlt | hge
  · obtain ⟨e, he⟩ := getE hlt
    have hes := (hf.el i e he).1
    obtain ⟨q, hq⟩ := getE (show i < a.length by omega)
    obtain ⟨t, ht⟩ := getE (has q (List.mem_of_getElem? hq))
    have hqd : a.getD i 0 = q := by rw [List.getD_eq_getElem?_getD, hq]; rfl
    have hqe : (a.map eiN)[i]? = some (eiN q) := by rw [List.getElem?_map, hq]; rfl
    have hT : hasS x s i = true → totS x a s 2 (i + 1) = totS x a s 2 i + cntR x q 2 (mineL x a s i) ∧ totS x a s 3 (i + 1) = totS x a s 3 i + cntR x q 3 (mineL x a s i) ∧ totS x a s 4 (i + 1) = totS x a s 4 i + cntR x q 4 (mineL x a s i) := fun h => ⟨by rw [totS_t h, hqd], by rw [totS_t h, hqd], by rw [totS_t h, hqd]⟩
    have hF : ¬ hasS x s i = true → totS x a s 2 (i + 1) = totS x a s 2 i ∧ totS x a s 3 (i + 1) = totS x a s 3 i ∧ totS x a s 4 (i + 1) = totS x a s 4 i := fun h => ⟨totS_f h, totS_f h, totS_f h⟩
    have hMT : hasS x s i = true → (mineL x a s (i + 1)).map eiN = (mineL x a s i).map eiN ++ [eiN q] := fun h => by rw [mineL, if_pos h, hqd, map_snoc]
    have hMF : ¬ hasS x s i = true → mineL x a s (i + 1) = mineL x a s i := fun h => by rw [mineL, if_neg h]
    have hMm : ∀ p ∈ mineL x a s i, ∃ u, x.sits[p]? = some u := fun p hp => by
      obtain ⟨j, hj, rfl⟩ := mineL_mem hp
      obtain ⟨q', hq'⟩ := getE (show j < a.length by omega)
      rw [List.getD_eq_getElem?_getD, hq']
      exact getE (has q' (List.mem_of_getElem? hq'))
    rw [hasS_at he] at hT hF hMT hMF
    generalize totS x a s 2 i = c2 at *
    generalize totS x a s 3 i = c3 at *
    generalize totS x a s 4 i = c4 at *
    generalize mineL x a s i = M at *
    repeat' (first | (refine fv_sl ?_) | (refine fh_ob ?_) | (refine idx_sl (k := i) (at_map he) (by omega) ?_) | (refine o_len rfl rfl rfl rfl rfl rfl (List.length_map _) ?_) | refine o1 ?_ | refine o2 ?_ | refine k1 ?_ | refine k2 ?_ | refine k3 ?_ | refine k4 ?_ | refine k6 ?_ | refine k7 ?_ | refine k8 ?_ | refine And.intro ?_ ?_ | exact trivial | refine o3 ?_ | refine o4 ?_ | refine o5 ?_ | refine o6 ?_ | refine k5 ?_ | (intro h; first | exact Bool.noConfusion h | exact nz _ h | exact nl h | (simp at h; done) | (simp at h; first | (exfalso; omega) | skip) | skip) | (change retOk _ _ _ _; refine ret_pure rfl trivial ?_) | exact (rfl : allOne _ = true) | (refine (?_ : (0 : Int) ≤ _); omega) | (refine (?_ : _ ≠ _); omega) | (refine (?_ : srcLen _ = rowsLen _); rfl) | exact Nat.le_of_ble_eq_true rfl | exact (by kernel_rfl : drawOk _ _ = true) | refine eqv_len_map ?_ | refine eqv_size ?_ | refine eqv_put (eqv_ck ?_) | refine eqv_zero ?_ | refine eqv_wrap (by omega) (by omega) ?_ | refine eqv_u64 (by omega) (by omega) ?_ | refine eqv_u8 (by omega) (by omega) ?_ | refine eqv_to _ (set_map rfl rfl) ?_ | refine ⟨_, _, (by first | rfl | assumption), at_map (by assumption), ?_⟩ | refine ⟨_, _, (by first | rfl | assumption), (by assumption), ?_⟩ | refine ⟨_, at_map (by assumption), (by decide), ?_⟩ | refine ⟨_, at_map (by assumption), ?_⟩ | (refine (?_ : _ ≤ 140737488355328); simp [rowsLen] <;> omega) | (refine (?_ : _ ≤ 9223372036854775807); simp [rowsLen] <;> omega) | (refine (?_ : _ = rowsLen _); simp [rowsLen] <;> omega) | refine eqv_to _ (app_row rfl) (eqv_to _ app_len ?_) | refine eqv_to _ (app_first rfl) (eqv_to 1 rfl ?_) | refine idx_sl (at_map (by assumption)) (by omega) ?_ | refine idx_ms _ (by first | rfl | assumption) (by first | assumption | omega) ?_ | (change vcFun _ _ _ _ _; refine call_eq rfl (by repeat' (first | trivial | refine And.intro ?_ ?_ | (show 0 + _ ≤ List.length _; simp))) ALeL.refl (c_contains e.studs s (by omega)) rfl ?_) | fail)
    · have hns : ¬ pB (s ∈ e.studs) = true := by rw [pB_f (by assumption)]; simp
      obtain ⟨f2, f3, f4⟩ := hF hns
      refine ⟨i + 1, hlt, by omega, ?_⟩
      rw [f2, f3, f4, hMF hns]
      exact back [0, 1, 2, 3] rfl rfl (by repeat' (first | exact trivial | exact rfl | exact ren_get rfl | refine kept_ob rfl ?_ | exact ⟨_, rfl, ALe.refl⟩ | refine And.intro ?_ ?_)) (by repeat' (first | exact trivial | exact rfl | exact ren_get rfl | refine kept_ob rfl ?_ | exact ⟨_, rfl, ALe.refl⟩ | refine And.intro ?_ ?_))
    obtain ⟨f2, f3, f4⟩ := hT (pB_t (by assumption))
    have hMT := hMT (pB_t (by assumption))
    refine loop_for (fun k : Nat => [(1, .pv (.sl 1 (a.map eiN))), (2, .pv (es s)), (3, .ptr 0 8 0 0), (6, .ptr 1 4 0 0), (7, .ptr 2 4 0 0), (8, slP 3 1 (M.map eiN)), (9, vint .i64 i), (16, .pv (.sl 4 (x.exams.map Exam.row))), (17, vint .i64 x.exams.length), (18, vint .i64 i), (28, slP 3 1 (M.map eiN)), (29, vint .i64 M.length), (30, vint .i64 k)])
      (fun k => [some ⟨33, 8, false, .box (pvs x.cells)⟩, some ⟨88, 4, false, .box (pvs [.val (.string ⟨#[]⟩), ei 0, ei 0, ei 0])⟩, some ⟨88, 4, false, .box (pvs (cntRow s (c2 + cntR x q 2 (M.take k)) (c3 + cntR x q 3 (M.take k)) (c4 + cntR x q 4 (M.take k))))⟩, obP 3 1 (M.map eiN)])
      (fun k => k ≤ M.length) (fun k => M.length - k) 0 (Nat.zero_le _) ?_ ?_
    · exact back [0, 1, 2, 3] rfl rfl (by repeat' (first | exact trivial | exact rfl | exact ren_get rfl | refine kept_ob rfl ?_ | exact ⟨_, rfl, ALe.refl⟩ | refine And.intro ?_ ?_)) (by repeat' (first | exact trivial | exact rfl | exact ren_get rfl | refine kept_ob rfl ?_ | exact ⟨_, rfl, ALe.refl⟩ | refine And.intro ?_ ?_))
    intro k hk
    have u2 := cntR_le (x := x) (q := q) (r := 2) (l := M.take k)
    have u3 := cntR_le (x := x) (q := q) (r := 3) (l := M.take k)
    have u4 := cntR_le (x := x) (q := q) (r := 4) (l := M.take k)
    rw [List.length_take] at u2 u3 u4
    rcases Nat.lt_or_ge k M.length with hkl | hkg
    · obtain ⟨p, hp⟩ := getE hkl
      obtain ⟨u, hu⟩ := hMm p (List.mem_of_getElem? hp)
      have hrel := c_relation x p q u t hf hu ht
      have hru := relQ_at hu ht
      have ct2 := cntR_take (x := x) (q := q) (r := 2) hp
      have ct3 := cntR_take (x := x) (q := q) (r := 3) hp
      have ct4 := cntR_take (x := x) (q := q) (r := 4) hp
      have hpe : (M.map eiN)[k]? = some (eiN p) := by rw [List.getElem?_map, hp]; rfl
      obtain ⟨m0, M', hM⟩ : ∃ m0 M', M.map eiN = m0 :: M' := by
        cases M with
        | nil => simp at hkl
        | cons a l => exact ⟨_, _, rfl⟩
      rw [← hru] at hrel
      generalize relQ x p q = R at *
      generalize cntR x q 2 (M.take k) = d2 at *
      generalize cntR x q 3 (M.take k) = d3 at *
      generalize cntR x q 4 (M.take k) = d4 at *
      have hml2 : k < (m0 :: M').length := by rw [← hM, List.length_map]; exact hkl
      rw [hM] at hpe ⊢
      repeat' (first | (refine idx_sl (k := i) hqe (by omega) ?_) | (refine ⟨_, hpe, ?_⟩) | refine o1 ?_ | refine o2 ?_ | refine k1 ?_ | refine k2 ?_ | refine k3 ?_ | refine k4 ?_ | refine k6 ?_ | refine k7 ?_ | refine k8 ?_ | refine And.intro ?_ ?_ | exact trivial | refine o3 ?_ | refine o4 ?_ | refine o5 ?_ | refine o6 ?_ | refine k5 ?_ | (intro h; first | exact Bool.noConfusion h | exact nz _ h | exact nl h | (simp at h; done) | (simp at h; first | (exfalso; omega) | skip) | skip) | (change retOk _ _ _ _; refine ret_pure rfl trivial ?_) | exact (rfl : allOne _ = true) | (refine (?_ : (0 : Int) ≤ _); omega) | (refine (?_ : _ ≠ _); omega) | (refine (?_ : srcLen _ = rowsLen _); rfl) | exact Nat.le_of_ble_eq_true rfl | exact (by kernel_rfl : drawOk _ _ = true) | refine eqv_len_map ?_ | refine eqv_size ?_ | refine eqv_put (eqv_ck ?_) | refine eqv_zero ?_ | refine eqv_wrap (by omega) (by omega) ?_ | refine eqv_u64 (by omega) (by omega) ?_ | refine eqv_u8 (by omega) (by omega) ?_ | refine eqv_to _ (set_map rfl rfl) ?_ | refine ⟨_, _, (by first | rfl | assumption), at_map (by assumption), ?_⟩ | refine ⟨_, _, (by first | rfl | assumption), (by assumption), ?_⟩ | refine ⟨_, at_map (by assumption), (by decide), ?_⟩ | refine ⟨_, at_map (by assumption), ?_⟩ | (refine (?_ : _ ≤ 140737488355328); simp [rowsLen] <;> omega) | (refine (?_ : _ ≤ 9223372036854775807); simp [rowsLen] <;> omega) | (refine (?_ : _ = rowsLen _); simp [rowsLen] <;> omega) | refine eqv_to _ (app_row rfl) (eqv_to _ app_len ?_) | refine eqv_to _ (app_first rfl) (eqv_to 1 rfl ?_) | refine idx_sl (at_map (by assumption)) (by omega) ?_ | refine idx_ms _ (by first | rfl | assumption) (by first | assumption | omega) ?_ | (change vcFun _ _ _ _ _; refine call_eq rfl (by repeat' (first | trivial | refine And.intro ?_ ?_ | (show 0 + _ ≤ List.length _; simp))) ALeL.refl (hrel) rfl ?_) | (change vcFunD _ _ _ _ _; refine callD_eq rfl (by repeat' (first | trivial | refine And.intro ?_ ?_ | (show 0 + _ ≤ List.length _; simp))) ALeL.refl (hrel) rfl ?_) | fail)
      all_goals
        refine ⟨k + 1, hkl, by omega, ?_⟩
        rw [ct2, ct3, ct4]
        first
          | (rw [if_pos (show R = 2 by omega), if_neg (show ¬ R = 3 by omega), if_neg (show ¬ R = 4 by omega)])
          | (rw [if_neg (show ¬ R = 2 by omega), if_pos (show R = 3 by omega), if_neg (show ¬ R = 4 by omega)])
          | (rw [if_neg (show ¬ R = 2 by omega), if_neg (show ¬ R = 3 by omega), if_pos (show R = 4 by omega)])
          | (rw [if_neg (show ¬ R = 2 by omega), if_neg (show ¬ R = 3 by omega), if_neg (show ¬ R = 4 by omega)])
        exact back [0, 1, 2, 3] rfl rfl (by repeat' (first | exact trivial | exact rfl | exact ren_get rfl | refine kept_ob rfl ?_ | exact ⟨_, rfl, ALe.refl⟩ | refine And.intro ?_ ?_)) (by repeat' (first | exact trivial | exact rfl | exact ren_get rfl | refine kept_ob rfl ?_ | exact ⟨_, rfl, ALe.refl⟩ | refine And.intro ?_ ?_))
    · obtain rfl : k = M.length := by omega
      rw [List.take_length]
      repeat' (first | (refine fv_sl ?_) | (refine fh_ob ?_) | (refine idx_sl (k := i) hqe (by omega) ?_) | ((refine o_app rfl rfl rfl rfl rfl rfl rfl rfl rfl rfl rfl (by rw [List.length_map]; omega) (by rw [List.length_map]; omega) ?_)) | refine o1 ?_ | refine o2 ?_ | refine k1 ?_ | refine k2 ?_ | refine k3 ?_ | refine k4 ?_ | refine k6 ?_ | refine k7 ?_ | refine k8 ?_ | refine And.intro ?_ ?_ | exact trivial | refine o3 ?_ | refine o4 ?_ | refine o5 ?_ | refine o6 ?_ | refine k5 ?_ | (intro h; first | exact Bool.noConfusion h | exact nz _ h | exact nl h | (simp at h; done) | (simp at h; first | (exfalso; omega) | skip) | skip) | (change retOk _ _ _ _; refine ret_pure rfl trivial ?_) | exact (rfl : allOne _ = true) | (refine (?_ : (0 : Int) ≤ _); omega) | (refine (?_ : _ ≠ _); omega) | (refine (?_ : srcLen _ = rowsLen _); rfl) | exact Nat.le_of_ble_eq_true rfl | exact (by kernel_rfl : drawOk _ _ = true) | refine eqv_len_map ?_ | refine eqv_size ?_ | refine eqv_put (eqv_ck ?_) | refine eqv_zero ?_ | refine eqv_wrap (by omega) (by omega) ?_ | refine eqv_u64 (by omega) (by omega) ?_ | refine eqv_u8 (by omega) (by omega) ?_ | refine eqv_to _ (set_map rfl rfl) ?_ | refine ⟨_, _, (by first | rfl | assumption), at_map (by assumption), ?_⟩ | refine ⟨_, _, (by first | rfl | assumption), (by assumption), ?_⟩ | refine ⟨_, at_map (by assumption), (by decide), ?_⟩ | refine ⟨_, at_map (by assumption), ?_⟩ | (refine (?_ : _ ≤ 140737488355328); simp [rowsLen] <;> omega) | (refine (?_ : _ ≤ 9223372036854775807); simp [rowsLen] <;> omega) | (refine (?_ : _ = rowsLen _); simp [rowsLen] <;> omega) | refine eqv_to _ (app_row rfl) (eqv_to _ app_len ?_) | refine eqv_to _ (app_first rfl) (eqv_to 1 rfl ?_) | refine idx_sl (at_map (by assumption)) (by omega) ?_ | refine idx_ms _ (by first | rfl | assumption) (by first | assumption | omega) ?_ | fail)
      refine ⟨i + 1, hlt, by omega, ?_⟩
      rw [f2, f3, f4, hMT, sl_app, ob_app]
      exact back [0, 1, 2, 5] rfl rfl (by repeat' (first | exact trivial | exact rfl | exact ren_get rfl | refine kept_ob rfl ?_ | exact ⟨_, rfl, ALe.refl⟩ | refine And.intro ?_ ?_)) (by repeat' (first | exact trivial | exact rfl | exact ren_get rfl | refine kept_ob rfl ?_ | exact ⟨_, rfl, ALe.refl⟩ | refine And.intro ?_ ?_))
  · obtain rfl : i = x.exams.length := by omega
    repeat' (first | (refine fv_sl ?_) | (refine fh_ob ?_) | refine o1 ?_ | refine o2 ?_ | refine k1 ?_ | refine k2 ?_ | refine k3 ?_ | refine k4 ?_ | refine k6 ?_ | refine k7 ?_ | refine k8 ?_ | refine And.intro ?_ ?_ | exact trivial | refine o3 ?_ | refine o4 ?_ | refine o5 ?_ | refine o6 ?_ | refine k5 ?_ | (intro h; first | exact Bool.noConfusion h | exact nz _ h | exact nl h | (simp at h; done) | (simp at h; first | (exfalso; omega) | skip) | skip) | (change retOk _ _ _ _; refine ret_pure rfl trivial ?_) | exact (rfl : allOne _ = true) | (refine (?_ : (0 : Int) ≤ _); omega) | (refine (?_ : _ ≠ _); omega) | (refine (?_ : srcLen _ = rowsLen _); rfl) | exact Nat.le_of_ble_eq_true rfl | exact (by kernel_rfl : drawOk _ _ = true) | refine eqv_len_map ?_ | refine eqv_size ?_ | refine eqv_put (eqv_ck ?_) | refine eqv_zero ?_ | refine eqv_wrap (by omega) (by omega) ?_ | refine eqv_u64 (by omega) (by omega) ?_ | refine eqv_u8 (by omega) (by omega) ?_ | refine eqv_to _ (set_map rfl rfl) ?_ | refine ⟨_, _, (by first | rfl | assumption), at_map (by assumption), ?_⟩ | refine ⟨_, _, (by first | rfl | assumption), (by assumption), ?_⟩ | refine ⟨_, at_map (by assumption), (by decide), ?_⟩ | refine ⟨_, at_map (by assumption), ?_⟩ | (refine (?_ : _ ≤ 140737488355328); simp [rowsLen] <;> omega) | (refine (?_ : _ ≤ 9223372036854775807); simp [rowsLen] <;> omega) | (refine (?_ : _ = rowsLen _); simp [rowsLen] <;> omega) | refine eqv_to _ (app_row rfl) (eqv_to _ app_len ?_) | refine eqv_to _ (app_first rfl) (eqv_to 1 rfl ?_) | refine idx_sl (at_map (by assumption)) (by omega) ?_ | refine idx_ms _ (by first | rfl | assumption) (by first | assumption | omega) ?_ | fail)
    exact rfl
end Go.Proofs.YtpnghlibmpainaaGreat.Cw

/-
  The library's sort and compact of strings, laid at this seat (printed by tools/laytext.py).
-/
namespace Go.Proofs.YtpnghlibmpainaaGreat.Cw
open Go Go.Cw Go.Proofs
set_option maxRecDepth 100000

def laySort_ren : Go.Shelf.Ren := ⟨fun | 190 => 65 | 125 => 109 | 258 => 108 | 128 => 150 | 129 => 151 | 302 => 141 | 303 => 142 | 304 => 143 | 305 => 144 | 306 => 145 | 307 => 146 | 308 => 147 | 309 => 148 | 310 => 149 | 333 => 168 | 329 => 169 | 330 => 170 | 334 => 171 | 335 => 172 | 336 => 173 | 344 => 176 | n => n, fun | 31 => 67 | 9 => 9 | 3 => 3 | 46 => 94 | 0 => 0 | 51 => 203 | 53 => 205 | 4 => 4 | 183 => 196 | 182 => 195 | 131 => 186 | 5 => 5 | 218 => 211 | 222 => 215 | 228 => 218 | 229 => 219 | n => n, fun | n => n⟩
theorem laySort : Go.Proofs.Lays.n190 Tryz.prog laySort_ren where
  mixed := by kernel_rfl
  f125 := Tryz.func109.trans (congrArg some (by kernel_rfl))
  f128 := Tryz.func150.trans (congrArg some (by kernel_rfl))
  f129 := Tryz.func151.trans (congrArg some (by kernel_rfl))
  f190 := Tryz.func65.trans (congrArg some (by kernel_rfl))
  f258 := Tryz.func108.trans (congrArg some (by kernel_rfl))
  f302 := Tryz.func141.trans (congrArg some (by kernel_rfl))
  f303 := Tryz.func142.trans (congrArg some (by kernel_rfl))
  f304 := Tryz.func143.trans (congrArg some (by kernel_rfl))
  f305 := Tryz.func144.trans (congrArg some (by kernel_rfl))
  f306 := Tryz.func145.trans (congrArg some (by kernel_rfl))
  f307 := Tryz.func146.trans (congrArg some (by kernel_rfl))
  f308 := Tryz.func147.trans (congrArg some (by kernel_rfl))
  f309 := Tryz.func148.trans (congrArg some (by kernel_rfl))
  f310 := Tryz.func149.trans (congrArg some (by kernel_rfl))
  f329 := Tryz.func169.trans (congrArg some (by kernel_rfl))
  f330 := Tryz.func170.trans (congrArg some (by kernel_rfl))
  f333 := Tryz.func168.trans (congrArg some (by kernel_rfl))
  f334 := Tryz.func171.trans (congrArg some (by kernel_rfl))
  f335 := Tryz.func172.trans (congrArg some (by kernel_rfl))
  f336 := Tryz.func173.trans (congrArg some (by kernel_rfl))
  f344 := Tryz.func176.trans (congrArg some (by kernel_rfl))
  t0 := Tryz.underlying0
  a0 := Tryz.isAgg0
  z0 := Tryz.sizeOf0
  v0 := Tryz.zeroValue0
  t3 := Tryz.underlying3
  a3 := Tryz.isAgg3
  z3 := Tryz.sizeOf3
  v3 := Tryz.zeroValue3
  t4 := Tryz.underlying4
  a4 := Tryz.isAgg4
  z4 := Tryz.sizeOf4
  v4 := Tryz.zeroValue4
  t5 := Tryz.underlying5
  a5 := Tryz.isAgg5
  z5 := Tryz.sizeOf5
  v5 := Tryz.zeroValue5
  t9 := Tryz.underlying9
  a9 := Tryz.isAgg9
  z9 := Tryz.sizeOf9
  v9 := Tryz.zeroValue9
  t31 := Tryz.underlying67
  a31 := Tryz.isAgg67
  z31 := Tryz.sizeOf67
  v31 := Tryz.zeroValue67
  t46 := Tryz.underlying94
  a46 := Tryz.isAgg94
  z46 := Tryz.sizeOf94
  v46 := Tryz.zeroValue94
  t51 := Tryz.underlying203
  a51 := Tryz.isAgg203
  z51 := Tryz.sizeOf203
  v51 := Tryz.zeroValue203
  t53 := Tryz.underlying205
  a53 := Tryz.isAgg205
  z53 := Tryz.sizeOf205
  v53 := Tryz.zeroValue205
  t131 := Tryz.underlying186
  a131 := Tryz.isAgg186
  z131 := Tryz.sizeOf186
  v131 := Tryz.zeroValue186
  t182 := Tryz.underlying195
  a182 := Tryz.isAgg195
  z182 := Tryz.sizeOf195
  v182 := Tryz.zeroValue195
  t183 := Tryz.underlying196
  a183 := Tryz.isAgg196
  z183 := Tryz.sizeOf196
  v183 := Tryz.zeroValue196
  t218 := Tryz.underlying211
  a218 := Tryz.isAgg211
  z218 := Tryz.sizeOf211
  v218 := Tryz.zeroValue211
  t222 := Tryz.underlying215
  a222 := Tryz.isAgg215
  z222 := Tryz.sizeOf215
  v222 := Tryz.zeroValue215
  t228 := Tryz.underlying218
  a228 := Tryz.isAgg218
  z228 := Tryz.sizeOf218
  v228 := Tryz.zeroValue218
  t229 := Tryz.underlying219
  a229 := Tryz.isAgg219
  z229 := Tryz.sizeOf219
  v229 := Tryz.zeroValue219
def layComp_ren : Go.Shelf.Ren := ⟨fun | 194 => 66 | n => n, fun | 31 => 67 | 9 => 9 | 3 => 3 | 4 => 4 | 0 => 0 | n => n, fun | n => n⟩
theorem layComp : Go.Proofs.Lays.n194 Tryz.prog layComp_ren where
  mixed := by kernel_rfl
  f194 := Tryz.func66.trans (congrArg some (by kernel_rfl))
  t0 := Tryz.underlying0
  a0 := Tryz.isAgg0
  z0 := Tryz.sizeOf0
  v0 := Tryz.zeroValue0
  t3 := Tryz.underlying3
  a3 := Tryz.isAgg3
  z3 := Tryz.sizeOf3
  v3 := Tryz.zeroValue3
  t4 := Tryz.underlying4
  a4 := Tryz.isAgg4
  z4 := Tryz.sizeOf4
  v4 := Tryz.zeroValue4
  t9 := Tryz.underlying9
  a9 := Tryz.isAgg9
  z9 := Tryz.sizeOf9
  v9 := Tryz.zeroValue9
  t31 := Tryz.underlying67
  a31 := Tryz.isAgg67
  z31 := Tryz.sizeOf67
  v31 := Tryz.zeroValue67

/-- A function of the program can be entered. -/
theorem ent {f : FuncId} {fn : Func} (h : Tryz.prog.funcs[f]? = some fn) (h1 : (fn.name == "runtime.NumGoroutine") = false) (h2 : fn.body.isNone = false) : Enterable Tryz.prog f := ⟨fn, h, h1, h2⟩
theorem c_sort (ss : List ByteArray) (hne : ss ≠ []) (hl : ss.length ≤ 1000000) :
    ACall Tryz.prog 65 [.ms 0 1 0 ss.length] [some ⟨9, 1, false, .p (ss.map strRow)⟩] fun r H' => r = .tup [] ∧ H' = [some ⟨9, 1, false, .p ((sortS ss).map strRow)⟩] :=
  acall_sortS laySort (ent Tryz.func65 (by kernel_rfl) (by kernel_rfl)) 9 ss hne (by omega)
theorem c_sort0 : PCall Tryz.prog 65 [.pv (.val (.slice none 0 0))] (fun r => r = .tup []) := acall_sortS0 laySort (ent Tryz.func65 (by kernel_rfl) (by kernel_rfl))
theorem c_compact (ss : List ByteArray) (hne : ss ≠ []) (hl : ss.length ≤ 1000000) :
    ACall Tryz.prog 66 [.ms 0 1 0 ss.length] [some ⟨9, 1, false, .p (ss.map strRow)⟩] fun r H' => r = .ms 0 1 0 (compactS ss).length ∧ ∃ zs : List ByteArray, H' = [some ⟨9, 1, false, .p ((compactS ss).map strRow ++ zs.map strRow)⟩] :=
  acall_compactS layComp (ent Tryz.func66 (by kernel_rfl) (by kernel_rfl)) 9 ss hne (by omega)
theorem c_compact0 : PCall Tryz.prog 66 [.pv (.val (.slice none 0 0))] (fun r => r = .pv (.val (.slice none 0 0))) := acall_compactS0 layComp (ent Tryz.func66 (by kernel_rfl) (by kernel_rfl))
end Go.Proofs.YtpnghlibmpainaaGreat.Cw

/-
  Contracts: the strains of examinations, by the program.
-/
namespace Go.Proofs.YtpnghlibmpainaaGreat.Cw
open Go Go.Cw Go.Proofs
set_option linter.unusedVariables false
set_option maxRecDepth 100000
set_option maxHeartbeats 8000000

noncomputable def sitN (x : Exams) (p : Placed) : Nat := (sitW x p.time).toNat
noncomputable def atS (x : Exams) (l : List Placed) : List Nat := l.map (sitN x)
/-- All students that are named, one list behind the other. -/
def allS (x : Exams) (i : Nat) : List Str := (x.exams.take i).flatMap Exam.studs
def namesX (x : Exams) : List Str := compactS (sortS (allS x x.exams.length))
noncomputable def strainsE (x : Exams) (l : List Placed) : Int := if examsE x ≠ 0 then examsE x else if l.length ≠ x.exams.length then 17 else if pB (∀ p ∈ l, whereP x p) then 0 else 17
noncomputable def strainsV (x : Exams) (l : List Placed) : List (List PV) := if strainsE x l = 0 then (namesX x).map (strainR x (atS x l)) else []
noncomputable def strainsA (x : Exams) (l : List Placed) : AV := .tup [.pv (.sl 4 (strainsV x l)), vint .i64 (strainsE x l)]

theorem sitW_lt {x : Exams} {t : Time} (h : 0 ≤ sitW x t) : ∃ n : Nat, sitW x t = n ∧ n < x.sits.length := by
  unfold sitW idxB at *
  split at h
  · rename_i i hi
    exact ⟨i, rfl, (List.findIdx?_eq_some_iff_getElem.1 hi).1⟩
  · exact absurd h (by decide)
theorem sitN_at {x : Exams} {p : Placed} (h : whereP x p) : sitW x p.time = (sitN x p : Int) ∧ sitN x p < x.sits.length := by
  obtain ⟨n, h1, h2⟩ := sitW_lt h.2.1
  unfold sitN
  rw [h1]
  exact ⟨rfl, h2⟩
theorem allS_succ {x : Exams} {i : Nat} {e : Exam} (h : x.exams[i]? = some e) : allS x (i + 1) = allS x i ++ e.studs := by
  unfold allS; rw [take_snoc h, List.flatMap_append]; simp
theorem allS_len {x : Exams} (h : examsE x = 0) : ∀ {i : Nat}, (allS x i).length ≤ i * 64
  | 0 => by simp [allS]
  | i + 1 => by
    have ih := allS_len h (i := i)
    rcases Nat.lt_or_ge i x.exams.length with hlt | hge
    · obtain ⟨e, he⟩ := getE hlt
      have := (exam_z h e (List.mem_of_getElem? he)).2.2
      rw [allS_succ he, List.length_append]; omega
    · have : allS x (i + 1) = allS x i := by unfold allS; rw [List.take_of_length_le (by omega), List.take_of_length_le (by omega)]
      rw [this]; omega
theorem allS_mem {x : Exams} {s : Str} : s ∈ allS x x.exams.length ↔ ∃ e ∈ x.exams, s ∈ e.studs := by
  unfold allS; rw [List.take_length, List.mem_flatMap]
/-- The sittings found so far, then nothing. -/
noncomputable def partS (x : Exams) (l : List Placed) (i : Nat) : List Nat := (atS x l).take i ++ List.replicate (l.length - i) 0
theorem partS_len {x : Exams} {l : List Placed} {i : Nat} (h : i ≤ l.length) : (partS x l i).length = l.length := by
  unfold partS atS; rw [List.length_append, List.length_take, List.length_replicate, List.length_map]; omega
theorem partS_set {x : Exams} {l : List Placed} {i : Nat} {p : Placed} (h : l[i]? = some p) : (partS x l i).set i (sitN x p) = partS x l (i + 1) := by
  have hi := (List.getElem?_eq_some_iff.1 h).1
  unfold partS
  have e : (atS x l)[i]? = some (sitN x p) := by unfold atS; rw [List.getElem?_map, h]; rfl
  have hl : ((atS x l).take i).length = i := by rw [List.length_take]; unfold atS; rw [List.length_map]; omega
  rw [List.set_append_right _ _ (by omega), hl, Nat.sub_self, take_snoc e, show l.length - i = (l.length - (i + 1)) + 1 by omega, List.replicate_succ, List.set_cons_zero, List.append_assoc]
  rfl
theorem partS_all {x : Exams} {l : List Placed} : partS x l l.length = atS x l := by
  unfold partS; rw [Nat.sub_self, List.take_of_length_le (by unfold atS; rw [List.length_map]; exact Nat.le_refl _)]; simp
theorem partS_zero {x : Exams} {l : List Placed} : partS x l 0 = List.replicate l.length 0 := by unfold partS; simp
theorem rep_map {n : Nat} : (List.replicate n 0).map eiN = List.replicate n [ei 0] := by rw [List.map_replicate]; rfl
theorem sl_ne {id z : Nat} {α : Type} {f : α → List PV} {L : List α} (h : L ≠ []) {n : Nat} (hn : L.length = n) : slP id z (L.map f) = .ms id z 0 n := by
  subst hn
  cases L with
  | nil => exact absurd rfl h
  | cons a l => simp [slP]
theorem ob_ne {ty z : Nat} {α : Type} {f : α → List PV} {L : List α} (h : L ≠ []) : obP ty z (L.map f) = some ⟨ty, z, false, .p (L.map f)⟩ := by
  cases L with
  | nil => exact absurd rfl h
  | cons a l => rfl
theorem le_mid {a b : AV} {α : Type} {f : α → List PV} {z n : Nat} {l : List α} (h : l.length ≤ n) : ALeL [a, .pv (.sl z (List.take n (List.drop 0 (l.map f)))), b] [a, .pv (.sl z (l.map f)), b] := ⟨ALe.refl, ALe.pv (whole_le h), ALe.refl, trivial⟩
theorem sortS_len (l : List Str) : (sortS l).length = l.length := (sortS_perm l).length_eq
theorem sortS_ne {l : List Str} (h : l ≠ []) : sortS l ≠ [] := fun e => h (List.eq_nil_of_length_eq_zero (by rw [← sortS_len, e]; rfl))
theorem strains_bad {x : Exams} {l : List Placed} {i : Nat} {p : Placed} (h0 : examsE x = 0) (hn : l.length = x.exams.length) (hp : l[i]? = some p) (hw : ¬ whereP x p) : strainsE x l = 17 ∧ strainsV x l = [] := by
  have e : strainsE x l = 17 := by
    unfold strainsE
    rw [if_neg (by simp [h0]), if_neg (by simp [hn]), pB_f (fun k => hw (k p (List.mem_of_getElem? hp)))]; rfl
  exact ⟨e, by unfold strainsV; rw [e]; rfl⟩
theorem strains_good {x : Exams} {l : List Placed} (h0 : examsE x = 0) (hn : l.length = x.exams.length) (hall : ∀ j, j < l.length → ∀ p, l[j]? = some p → whereP x p) : strainsE x l = 0 ∧ strainsV x l = (namesX x).map (strainR x (atS x l)) := by
  have e : strainsE x l = 0 := by
    unfold strainsE
    rw [if_neg (by simp [h0]), if_neg (by simp [hn]), pB_t (fun p hp => by obtain ⟨j, hj⟩ := List.getElem?_of_mem hp; exact hall j (List.getElem?_eq_some_iff.1 hj).1 p hj)]; rfl
  exact ⟨e, by unfold strainsV; rw [if_pos e]⟩
theorem atS_ok {x : Exams} {l : List Placed} (hn : l.length = x.exams.length) (hall : ∀ j, j < l.length → ∀ p, l[j]? = some p → whereP x p) : SitsOk x (atS x l) := by
  refine ⟨by unfold atS; rw [List.length_map]; exact hn, fun q hq => ?_⟩
  obtain ⟨p, hp, rfl⟩ := List.mem_map.1 hq
  obtain ⟨j, hj⟩ := List.getElem?_of_mem hp
  exact (sitN_at (hall j (List.getElem?_eq_some_iff.1 hj).1 p hj)).2
theorem c_sort2 (ss : List ByteArray) (hne : ss ≠ []) (hl : ss.length ≤ 1000000) :
    ACall Tryz.prog 65 [.ms 0 1 0 (sortS ss).length] [some ⟨9, 1, false, .p (ss.map strRow)⟩] fun r H' => r = .tup [] ∧ H' = [some ⟨9, 1, false, .p ((sortS ss).map strRow)⟩] := by
  rw [sortS_len]; exact c_sort ss hne hl

theorem c_strains0 (x : Exams) (l : List Placed) (h0 : examsE x = 0) (hn : l.length = x.exams.length) (h6 : x.exams.length ≤ 6) : PCall Tryz.prog 30 [ag x.cells, .pv (.sl 5 (l.map Placed.row))] (fun r => Leq r (strainsA x l)) := by
  have h1 := c_exams x
  rw [h0] at h1
  have hal := fun i => allS_len h0 (i := i)
  unfold strainsA
  refine acall_of tok mixed 78 rfl (fn := Tryz.f30) (c := Tryz.f30.body.getD .skip) (by kernel_rfl) (by kernel_rfl) (by kernel_rfl) rfl 0 rfl ?_
  repeat' (first | (refine ⟨l.length, l.length, rfl, rfl, Nat.le_refl _, (by omega), (by omega), ?_⟩) | (refine eqv_to (List.replicate l.length [ei 0]) rfl ?_) | refine o1 ?_ | refine o2 ?_ | refine k1 ?_ | refine k2 ?_ | refine k3 ?_ | refine k4 ?_ | refine k6 ?_ | refine k7 ?_ | refine k8 ?_ | refine And.intro ?_ ?_ | exact trivial | refine o3 ?_ | refine o4 ?_ | refine o5 ?_ | refine o6 ?_ | refine k5 ?_ | (intro h; first | exact Bool.noConfusion h | exact nz _ h | exact nl h | (simp at h; done) | (simp at h; first | (exfalso; omega) | skip) | skip) | (change retOk _ _ _ _; refine ret_pure rfl trivial ?_) | exact (rfl : allOne _ = true) | (refine (?_ : (0 : Int) ≤ _); omega) | (refine (?_ : _ ≠ _); omega) | (refine (?_ : srcLen _ = rowsLen _); rfl) | exact Nat.le_of_ble_eq_true rfl | exact (by kernel_rfl : drawOk _ _ = true) | refine eqv_len_map ?_ | refine eqv_size ?_ | refine eqv_put (eqv_ck ?_) | refine eqv_zero ?_ | refine eqv_wrap (by omega) (by omega) ?_ | refine eqv_u64 (by omega) (by omega) ?_ | refine eqv_u8 (by omega) (by omega) ?_ | refine eqv_to _ (set_map rfl rfl) ?_ | refine ⟨_, _, (by first | rfl | assumption), at_map (by assumption), ?_⟩ | refine ⟨_, _, (by first | rfl | assumption), (by assumption), ?_⟩ | refine ⟨_, at_map (by assumption), (by decide), ?_⟩ | refine ⟨_, at_map (by assumption), ?_⟩ | (refine (?_ : _ ≤ 140737488355328); simp [rowsLen] <;> omega) | (refine (?_ : _ ≤ 9223372036854775807); simp [rowsLen] <;> omega) | (refine (?_ : _ = rowsLen _); simp [rowsLen] <;> omega) | refine eqv_to _ (app_row rfl) (eqv_to _ app_len ?_) | refine eqv_to _ (app_first rfl) (eqv_to 1 rfl ?_) | refine idx_sl (at_map (by assumption)) (by omega) ?_ | refine idx_ms _ (by first | rfl | assumption) (by first | assumption | omega) ?_ | (change vcFun _ _ _ _ _; refine call_eq rfl (by repeat' (first | trivial | refine And.intro ?_ ?_ | (show 0 + _ ≤ List.length _; simp))) ALeL.refl (h1) rfl ?_) | fail)
  all_goals try (exfalso; omega)
  refine loop_for (fun i : Nat => [(1, .pv (.sl 5 (l.map Placed.row))), (2, .ptr 0 8 0 0), (7, .ms 1 1 0 l.length), (8, slP 2 1 ((allS x i).map strRow)), (31, .pv (.sl 5 (l.map Placed.row))), (32, vint .i64 l.length), (33, vint .i64 i)])
    (fun i => [some ⟨33, 8, false, .box (pvs x.cells)⟩, some ⟨3, 1, false, .p ((partS x l i).map eiN)⟩, obP 9 1 ((allS x i).map strRow)])
    (fun i => i ≤ l.length ∧ ∀ j, j < i → ∀ p, l[j]? = some p → whereP x p) (fun i => l.length - i) 0 ⟨Nat.zero_le _, fun j hj => by omega⟩ ?_ ?_
  · rw [partS_zero, rep_map]
    exact back [0, 1, 2] rfl rfl (by repeat' (first | exact trivial | exact rfl | exact ren_get rfl | refine kept_ob rfl ?_ | exact ⟨_, rfl, ALe.refl⟩ | refine And.intro ?_ ?_)) (by repeat' (first | exact trivial | exact rfl | exact ren_get rfl | refine kept_ob rfl ?_ | exact ⟨_, rfl, ALe.refl⟩ | refine And.intro ?_ ?_))
  intro i ⟨hi, hall⟩
  have hai := hal i
  rcases Nat.lt_or_ge i l.length with hlt | hge
  · obtain ⟨p, hp⟩ := getE hlt
    obtain ⟨e, he⟩ := getE (show i < x.exams.length by omega)
    have hes := (exam_z h0 e (List.mem_of_getElem? he)).2.2
    have hw := c_where x p h0
    have hps := partS_set (x := x) hp
    have hpl := partS_len (x := x) hi
    have has := allS_succ he
    have hpr : (l.map Placed.row)[i]? = some p.row := by rw [List.getElem?_map, hp]; rfl
    by_cases hwp : whereP x p
    · rw [whereA_t hwp, (sitN_at hwp).1] at hw
      generalize allS x i = L at *
      generalize partS x l i = A at *
      obtain ⟨a0, ha0⟩ := getE (show i < A.length by omega)
      repeat' (first | (refine fv_sl ?_) | (refine fh_ob ?_) | (refine idx_sl (k := i) (at_map he) (by omega) ?_) | (refine eqv_to _ (set_map (f := eiN) (y := sitN x p) rfl rfl) ?_) | ((refine o_appL rfl rfl rfl rfl rfl rfl rfl rfl rfl rfl rfl (by rw [List.length_map, List.length_map]; omega) (by rw [List.length_map, List.length_map]; omega) ?_)) | refine o1 ?_ | refine o2 ?_ | refine k1 ?_ | refine k2 ?_ | refine k3 ?_ | refine k4 ?_ | refine k6 ?_ | refine k7 ?_ | refine k8 ?_ | refine And.intro ?_ ?_ | exact trivial | refine o3 ?_ | refine o4 ?_ | refine o5 ?_ | refine o6 ?_ | refine k5 ?_ | (intro h; first | exact Bool.noConfusion h | exact nz _ h | exact nl h | (simp at h; done) | (simp at h; first | (exfalso; omega) | skip) | skip) | (change retOk _ _ _ _; refine ret_pure rfl trivial ?_) | exact (rfl : allOne _ = true) | (refine (?_ : (0 : Int) ≤ _); omega) | (refine (?_ : _ ≠ _); omega) | (refine (?_ : srcLen _ = rowsLen _); rfl) | exact Nat.le_of_ble_eq_true rfl | exact (by kernel_rfl : drawOk _ _ = true) | refine eqv_len_map ?_ | refine eqv_size ?_ | refine eqv_put (eqv_ck ?_) | refine eqv_zero ?_ | refine eqv_wrap (by omega) (by omega) ?_ | refine eqv_u64 (by omega) (by omega) ?_ | refine eqv_u8 (by omega) (by omega) ?_ | refine eqv_to _ (set_map rfl rfl) ?_ | refine ⟨_, _, (by first | rfl | assumption), at_map (by assumption), ?_⟩ | refine ⟨_, _, (by first | rfl | assumption), (by assumption), ?_⟩ | refine ⟨_, at_map (by assumption), (by decide), ?_⟩ | refine ⟨_, at_map (by assumption), ?_⟩ | (refine (?_ : _ ≤ 140737488355328); simp [rowsLen] <;> omega) | (refine (?_ : _ ≤ 9223372036854775807); simp [rowsLen] <;> omega) | (refine (?_ : _ = rowsLen _); simp [rowsLen] <;> omega) | refine eqv_to _ (app_row rfl) (eqv_to _ app_len ?_) | refine eqv_to _ (app_first rfl) (eqv_to 1 rfl ?_) | refine idx_sl (at_map (by assumption)) (by omega) ?_ | refine idx_ms _ (by first | rfl | assumption) (by first | assumption | omega) ?_ | (change vcFun _ _ _ _ _; refine call_eq rfl (by repeat' (first | trivial | refine And.intro ?_ ?_ | (show 0 + _ ≤ List.length _; simp))) ALeL.refl (hw) rfl ?_) | fail)
      refine ⟨i + 1, ⟨hlt, all_lt_succ hall fun q hq => by rw [hp] at hq; cases hq; exact hwp⟩, by omega, ?_⟩
      rw [← hps, has, List.map_append]
      exact back [0, 1, 4] rfl rfl (by repeat' (first | exact trivial | exact rfl | exact ren_get rfl | refine kept_ob rfl ?_ | exact ⟨_, rfl, ALe.refl⟩ | refine And.intro ?_ ?_)) (by repeat' (first | exact trivial | exact rfl | exact ren_get rfl | refine kept_ob rfl ?_ | exact ⟨_, rfl, ALe.refl⟩ | refine And.intro ?_ ?_))
    · obtain ⟨b1, b2⟩ := strains_bad h0 hn hp hwp
      rw [whereA_f hwp] at hw
      rw [b1, b2]
      generalize allS x i = L at *
      generalize partS x l i = A at *
      repeat' (first | (refine fv_sl ?_) | (refine fh_ob ?_) | refine o1 ?_ | refine o2 ?_ | refine k1 ?_ | refine k2 ?_ | refine k3 ?_ | refine k4 ?_ | refine k6 ?_ | refine k7 ?_ | refine k8 ?_ | refine And.intro ?_ ?_ | exact trivial | refine o3 ?_ | refine o4 ?_ | refine o5 ?_ | refine o6 ?_ | refine k5 ?_ | (intro h; first | exact Bool.noConfusion h | exact nz _ h | exact nl h | (simp at h; done) | (simp at h; first | (exfalso; omega) | skip) | skip) | (change retOk _ _ _ _; refine ret_pure rfl trivial ?_) | exact (rfl : allOne _ = true) | (refine (?_ : (0 : Int) ≤ _); omega) | (refine (?_ : _ ≠ _); omega) | (refine (?_ : srcLen _ = rowsLen _); rfl) | exact Nat.le_of_ble_eq_true rfl | exact (by kernel_rfl : drawOk _ _ = true) | refine eqv_len_map ?_ | refine eqv_size ?_ | refine eqv_put (eqv_ck ?_) | refine eqv_zero ?_ | refine eqv_wrap (by omega) (by omega) ?_ | refine eqv_u64 (by omega) (by omega) ?_ | refine eqv_u8 (by omega) (by omega) ?_ | refine eqv_to _ (set_map rfl rfl) ?_ | refine ⟨_, _, (by first | rfl | assumption), at_map (by assumption), ?_⟩ | refine ⟨_, _, (by first | rfl | assumption), (by assumption), ?_⟩ | refine ⟨_, at_map (by assumption), (by decide), ?_⟩ | refine ⟨_, at_map (by assumption), ?_⟩ | (refine (?_ : _ ≤ 140737488355328); simp [rowsLen] <;> omega) | (refine (?_ : _ ≤ 9223372036854775807); simp [rowsLen] <;> omega) | (refine (?_ : _ = rowsLen _); simp [rowsLen] <;> omega) | refine eqv_to _ (app_row rfl) (eqv_to _ app_len ?_) | refine eqv_to _ (app_first rfl) (eqv_to 1 rfl ?_) | refine idx_sl (at_map (by assumption)) (by omega) ?_ | refine idx_ms _ (by first | rfl | assumption) (by first | assumption | omega) ?_ | (change vcFun _ _ _ _ _; refine call_eq rfl (by repeat' (first | trivial | refine And.intro ?_ ?_ | (show 0 + _ ≤ List.length _; simp))) ALeL.refl (hw) rfl ?_) | fail)
      exact ⟨ALe.tup ⟨ALe.pv PLe.nil, ALe.refl, trivial⟩⟩
  · obtain rfl : i = l.length := by omega
    obtain ⟨b1, b2⟩ := strains_good h0 hn hall
    have hso := atS_ok hn hall
    rw [b1, b2, partS_all]
    have hnx : namesX x = compactS (sortS (allS x l.length)) := by unfold namesX; rw [hn]
    rw [hnx]
    have hst := fun s => c_strain x (atS x l) s h0 hso h6
    have hat := hso.1
    generalize allS x l.length = L at *
    generalize atS x l = A at *
    by_cases hL : L = []
    · subst hL
      have hz : compactS (sortS []) = [] := List.eq_nil_of_length_eq_zero (by have := compactS_len (sortS []); rw [sortS_len] at this; simpa using this)
      rw [hz]
      repeat' (first | (refine fv_sl ?_) | (refine fh_ob ?_) | refine o1 ?_ | refine o2 ?_ | refine k1 ?_ | refine k2 ?_ | refine k3 ?_ | refine k4 ?_ | refine k6 ?_ | refine k7 ?_ | refine k8 ?_ | refine And.intro ?_ ?_ | exact trivial | refine o3 ?_ | refine o4 ?_ | refine o5 ?_ | refine o6 ?_ | refine k5 ?_ | (intro h; first | exact Bool.noConfusion h | exact nz _ h | exact nl h | (simp at h; done) | (simp at h; first | (exfalso; omega) | skip) | skip) | (change retOk _ _ _ _; refine ret_pure rfl trivial ?_) | exact (rfl : allOne _ = true) | (refine (?_ : (0 : Int) ≤ _); omega) | (refine (?_ : _ ≠ _); omega) | (refine (?_ : srcLen _ = rowsLen _); rfl) | exact Nat.le_of_ble_eq_true rfl | exact (by kernel_rfl : drawOk _ _ = true) | refine eqv_len_map ?_ | refine eqv_size ?_ | refine eqv_put (eqv_ck ?_) | refine eqv_zero ?_ | refine eqv_wrap (by omega) (by omega) ?_ | refine eqv_u64 (by omega) (by omega) ?_ | refine eqv_u8 (by omega) (by omega) ?_ | refine eqv_to _ (set_map rfl rfl) ?_ | refine ⟨_, _, (by first | rfl | assumption), at_map (by assumption), ?_⟩ | refine ⟨_, _, (by first | rfl | assumption), (by assumption), ?_⟩ | refine ⟨_, at_map (by assumption), (by decide), ?_⟩ | refine ⟨_, at_map (by assumption), ?_⟩ | (refine (?_ : _ ≤ 140737488355328); simp [rowsLen] <;> omega) | (refine (?_ : _ ≤ 9223372036854775807); simp [rowsLen] <;> omega) | (refine (?_ : _ = rowsLen _); simp [rowsLen] <;> omega) | refine eqv_to _ (app_row rfl) (eqv_to _ app_len ?_) | refine eqv_to _ (app_first rfl) (eqv_to 1 rfl ?_) | refine idx_sl (at_map (by assumption)) (by omega) ?_ | refine idx_ms _ (by first | rfl | assumption) (by first | assumption | omega) ?_ | (change vcFun _ _ _ _ _; refine call_eq rfl (by repeat' (first | trivial | refine And.intro ?_ ?_ | (show 0 + _ ≤ List.length _; simp))) ALeL.refl (c_sort0) rfl ?_) | (change vcFun _ _ _ _ _; refine call_eq rfl (by repeat' (first | trivial | refine And.intro ?_ ?_ | (show 0 + _ ≤ List.length _; simp))) ALeL.refl (c_compact0) rfl ?_) | fail)
      refine loop_for (fun u : Nat => [(14, nilA), (64, vint .i64 0), (65, vint .i64 0)]) (fun _ => []) (fun _ => True) (fun _ => 0) 0 trivial ?_ ?_
      · exact back [] rfl rfl trivial (by repeat' (first | exact trivial | exact rfl | exact ren_get rfl | refine kept_ob rfl ?_ | exact ⟨_, rfl, ALe.refl⟩ | refine And.intro ?_ ?_))
      intro u _
      repeat' (first | refine o1 ?_ | refine o2 ?_ | refine k1 ?_ | refine k2 ?_ | refine k3 ?_ | refine k4 ?_ | refine k6 ?_ | refine k7 ?_ | refine k8 ?_ | refine And.intro ?_ ?_ | exact trivial | refine o3 ?_ | refine o4 ?_ | refine o5 ?_ | refine o6 ?_ | refine k5 ?_ | (intro h; first | exact Bool.noConfusion h | exact nz _ h | exact nl h | (simp at h; done) | (simp at h; first | (exfalso; omega) | skip) | skip) | (change retOk _ _ _ _; refine ret_pure rfl trivial ?_) | exact (rfl : allOne _ = true) | (refine (?_ : (0 : Int) ≤ _); omega) | (refine (?_ : _ ≠ _); omega) | (refine (?_ : srcLen _ = rowsLen _); rfl) | exact Nat.le_of_ble_eq_true rfl | exact (by kernel_rfl : drawOk _ _ = true) | refine eqv_len_map ?_ | refine eqv_size ?_ | refine eqv_put (eqv_ck ?_) | refine eqv_zero ?_ | refine eqv_wrap (by omega) (by omega) ?_ | refine eqv_u64 (by omega) (by omega) ?_ | refine eqv_u8 (by omega) (by omega) ?_ | refine eqv_to _ (set_map rfl rfl) ?_ | refine ⟨_, _, (by first | rfl | assumption), at_map (by assumption), ?_⟩ | refine ⟨_, _, (by first | rfl | assumption), (by assumption), ?_⟩ | refine ⟨_, at_map (by assumption), (by decide), ?_⟩ | refine ⟨_, at_map (by assumption), ?_⟩ | (refine (?_ : _ ≤ 140737488355328); simp [rowsLen] <;> omega) | (refine (?_ : _ ≤ 9223372036854775807); simp [rowsLen] <;> omega) | (refine (?_ : _ = rowsLen _); simp [rowsLen] <;> omega) | refine eqv_to _ (app_row rfl) (eqv_to _ app_len ?_) | refine eqv_to _ (app_first rfl) (eqv_to 1 rfl ?_) | refine idx_sl (at_map (by assumption)) (by omega) ?_ | refine idx_ms _ (by first | rfl | assumption) (by first | assumption | omega) ?_ | fail)
      exact ⟨ALe.tup ⟨ALe.pv PLe.nil, ALe.refl, trivial⟩⟩
    · rw [sl_ne hL (sortS_len L).symm, ob_ne hL]
      repeat' (first | ((change vcFun _ _ _ _ _; refine call_one (i := 2) rfl (fun _ _ => rfl) [.ms 0 1 0 (sortS L).length] rfl (c_sort2 L hL (by omega)) ?_; rintro r H' ⟨rfl, rfl⟩; refine ⟨_, rfl, fun _ _ => rfl, fun _ _ => rfl, ?_⟩)) | ((change vcFun _ _ _ _ _; refine call_obj [2] [some ⟨9, 1, false, .p ((sortS L).map strRow)⟩] [.ms 0 1 0 (sortS L).length] rfl ⟨rfl, trivial⟩ rfl (c_compact (sortS L) (sortS_ne hL) (by rw [sortS_len]; omega)) ?_; rintro r H' ⟨rfl, zs, rfl⟩)) | refine o1 ?_ | refine o2 ?_ | refine k1 ?_ | refine k2 ?_ | refine k3 ?_ | refine k4 ?_ | refine k6 ?_ | refine k7 ?_ | refine k8 ?_ | refine And.intro ?_ ?_ | exact trivial | refine o3 ?_ | refine o4 ?_ | refine o5 ?_ | refine o6 ?_ | refine k5 ?_ | (intro h; first | exact Bool.noConfusion h | exact nz _ h | exact nl h | (simp at h; done) | (simp at h; first | (exfalso; omega) | skip) | skip) | (change retOk _ _ _ _; refine ret_pure rfl trivial ?_) | exact (rfl : allOne _ = true) | (refine (?_ : (0 : Int) ≤ _); omega) | (refine (?_ : _ ≠ _); omega) | (refine (?_ : srcLen _ = rowsLen _); rfl) | exact Nat.le_of_ble_eq_true rfl | exact (by kernel_rfl : drawOk _ _ = true) | refine eqv_len_map ?_ | refine eqv_size ?_ | refine eqv_put (eqv_ck ?_) | refine eqv_zero ?_ | refine eqv_wrap (by omega) (by omega) ?_ | refine eqv_u64 (by omega) (by omega) ?_ | refine eqv_u8 (by omega) (by omega) ?_ | refine eqv_to _ (set_map rfl rfl) ?_ | refine ⟨_, _, (by first | rfl | assumption), at_map (by assumption), ?_⟩ | refine ⟨_, _, (by first | rfl | assumption), (by assumption), ?_⟩ | refine ⟨_, at_map (by assumption), (by decide), ?_⟩ | refine ⟨_, at_map (by assumption), ?_⟩ | (refine (?_ : _ ≤ 140737488355328); simp [rowsLen] <;> omega) | (refine (?_ : _ ≤ 9223372036854775807); simp [rowsLen] <;> omega) | (refine (?_ : _ = rowsLen _); simp [rowsLen] <;> omega) | refine eqv_to _ (app_row rfl) (eqv_to _ app_len ?_) | refine eqv_to _ (app_first rfl) (eqv_to 1 rfl ?_) | refine idx_sl (at_map (by assumption)) (by omega) ?_ | refine idx_ms _ (by first | rfl | assumption) (by first | assumption | omega) ?_ | fail)
      have hnl : (compactS (sortS L)).length ≤ 384 := by have := compactS_len (sortS L); rw [sortS_len] at this; omega
      generalize compactS (sortS L) = NS at *
      refine loop_for (fun k : Nat => [(2, .ptr 0 8 0 0), (7, .ms 1 1 0 l.length), (14, slP 3 4 ((NS.take k).map (strainR x A))), (63, .ms 2 1 0 NS.length), (64, vint .i64 NS.length), (65, vint .i64 k)])
        (fun k => [some ⟨33, 8, false, .box (pvs x.cells)⟩, some ⟨3, 1, false, .p (A.map eiN)⟩, some ⟨9, 1, false, .p (NS.map strRow ++ zs.map strRow)⟩, obP 88 4 ((NS.take k).map (strainR x A))])
        (fun k => k ≤ NS.length) (fun k => NS.length - k) 0 (Nat.zero_le _) ?_ ?_
      · exact back [0, 1, 2, 3] rfl rfl (by repeat' (first | exact trivial | exact rfl | exact ren_get rfl | refine kept_ob rfl ?_ | exact ⟨_, rfl, ALe.refl⟩ | refine And.intro ?_ ?_)) (by repeat' (first | exact trivial | exact rfl | exact ren_get rfl | refine kept_ob rfl ?_ | exact ⟨_, rfl, ALe.refl⟩ | refine And.intro ?_ ?_))
      intro k hk
      rcases Nat.lt_or_ge k NS.length with hkl | hkg
      · obtain ⟨s, hs⟩ := getE hkl
        have hnk : (NS.map strRow ++ zs.map strRow)[k]? = some (strRow s) := by rw [List.getElem?_append_left (by rw [List.length_map]; exact hkl), List.getElem?_map, hs]; rfl
        have htk := take_snoc hs
        have htl : (NS.take k).length ≤ k := List.length_take_le ..
        have hla : l.length = A.length := hn.trans hat.symm
        generalize NS.take k = NK at *
        repeat' (first | (refine fv_sl ?_) | (refine fh_ob ?_) | (refine idx_ms k rfl hkl ?_) | (refine ⟨_, hnk, ?_⟩) | ((change vcFun _ _ _ _ _; refine call_eq rfl (by repeat' (first | trivial | refine And.intro ?_ ?_ | (show 0 + _ ≤ List.length _; rw [List.length_map]; omega))) (le_mid (f := eiN) (l := A) (by omega)) (hst s) rfl ?_)) | ((refine o_app rfl rfl rfl rfl rfl rfl rfl rfl rfl rfl rfl (by rw [List.length_map]; omega) (by rw [List.length_map]; omega) ?_)) | refine o1 ?_ | refine o2 ?_ | refine k1 ?_ | refine k2 ?_ | refine k3 ?_ | refine k4 ?_ | refine k6 ?_ | refine k7 ?_ | refine k8 ?_ | refine And.intro ?_ ?_ | exact trivial | refine o3 ?_ | refine o4 ?_ | refine o5 ?_ | refine o6 ?_ | refine k5 ?_ | (intro h; first | exact Bool.noConfusion h | exact nz _ h | exact nl h | (simp at h; done) | (simp at h; first | (exfalso; omega) | skip) | skip) | (change retOk _ _ _ _; refine ret_pure rfl trivial ?_) | exact (rfl : allOne _ = true) | (refine (?_ : (0 : Int) ≤ _); omega) | (refine (?_ : _ ≠ _); omega) | (refine (?_ : srcLen _ = rowsLen _); rfl) | exact Nat.le_of_ble_eq_true rfl | exact (by kernel_rfl : drawOk _ _ = true) | refine eqv_len_map ?_ | refine eqv_size ?_ | refine eqv_put (eqv_ck ?_) | refine eqv_zero ?_ | refine eqv_wrap (by omega) (by omega) ?_ | refine eqv_u64 (by omega) (by omega) ?_ | refine eqv_u8 (by omega) (by omega) ?_ | refine eqv_to _ (set_map rfl rfl) ?_ | refine ⟨_, _, (by first | rfl | assumption), at_map (by assumption), ?_⟩ | refine ⟨_, _, (by first | rfl | assumption), (by assumption), ?_⟩ | refine ⟨_, at_map (by assumption), (by decide), ?_⟩ | refine ⟨_, at_map (by assumption), ?_⟩ | (refine (?_ : _ ≤ 140737488355328); simp [rowsLen] <;> omega) | (refine (?_ : _ ≤ 9223372036854775807); simp [rowsLen] <;> omega) | (refine (?_ : _ = rowsLen _); simp [rowsLen] <;> omega) | refine eqv_to _ (app_row rfl) (eqv_to _ app_len ?_) | refine eqv_to _ (app_first rfl) (eqv_to 1 rfl ?_) | refine idx_sl (at_map (by assumption)) (by omega) ?_ | refine idx_ms _ (by first | rfl | assumption) (by first | assumption | omega) ?_ | fail)
        refine ⟨k + 1, hkl, by omega, ?_⟩
        rw [htk, map_snoc, sl_app, ob_app]
        exact back [0, 1, 2, 5] rfl rfl (by repeat' (first | exact trivial | exact rfl | exact ren_get rfl | refine kept_ob rfl ?_ | exact ⟨_, rfl, ALe.refl⟩ | refine And.intro ?_ ?_)) (by repeat' (first | exact trivial | exact rfl | exact ren_get rfl | refine kept_ob rfl ?_ | exact ⟨_, rfl, ALe.refl⟩ | refine And.intro ?_ ?_))
      · obtain rfl : k = NS.length := by omega
        rw [List.take_length]
        repeat' (first | (refine fv_sl ?_) | (refine fh_ob ?_) | refine o1 ?_ | refine o2 ?_ | refine k1 ?_ | refine k2 ?_ | refine k3 ?_ | refine k4 ?_ | refine k6 ?_ | refine k7 ?_ | refine k8 ?_ | refine And.intro ?_ ?_ | exact trivial | refine o3 ?_ | refine o4 ?_ | refine o5 ?_ | refine o6 ?_ | refine k5 ?_ | (intro h; first | exact Bool.noConfusion h | exact nz _ h | exact nl h | (simp at h; done) | (simp at h; first | (exfalso; omega) | skip) | skip) | (change retOk _ _ _ _; refine ret_pure rfl trivial ?_) | exact (rfl : allOne _ = true) | (refine (?_ : (0 : Int) ≤ _); omega) | (refine (?_ : _ ≠ _); omega) | (refine (?_ : srcLen _ = rowsLen _); rfl) | exact Nat.le_of_ble_eq_true rfl | exact (by kernel_rfl : drawOk _ _ = true) | refine eqv_len_map ?_ | refine eqv_size ?_ | refine eqv_put (eqv_ck ?_) | refine eqv_zero ?_ | refine eqv_wrap (by omega) (by omega) ?_ | refine eqv_u64 (by omega) (by omega) ?_ | refine eqv_u8 (by omega) (by omega) ?_ | refine eqv_to _ (set_map rfl rfl) ?_ | refine ⟨_, _, (by first | rfl | assumption), at_map (by assumption), ?_⟩ | refine ⟨_, _, (by first | rfl | assumption), (by assumption), ?_⟩ | refine ⟨_, at_map (by assumption), (by decide), ?_⟩ | refine ⟨_, at_map (by assumption), ?_⟩ | (refine (?_ : _ ≤ 140737488355328); simp [rowsLen] <;> omega) | (refine (?_ : _ ≤ 9223372036854775807); simp [rowsLen] <;> omega) | (refine (?_ : _ = rowsLen _); simp [rowsLen] <;> omega) | refine eqv_to _ (app_row rfl) (eqv_to _ app_len ?_) | refine eqv_to _ (app_first rfl) (eqv_to 1 rfl ?_) | refine idx_sl (at_map (by assumption)) (by omega) ?_ | refine idx_ms _ (by first | rfl | assumption) (by first | assumption | omega) ?_ | fail)
        exact ret_sl2 (id := 3) (ty := 88) rfl rfl
end Go.Proofs.YtpnghlibmpainaaGreat.Cw

/-
  Plain: the strains of all students are the entries of pairs.
-/
namespace Go.Proofs.YtpnghlibmpainaaGreat.Cw
open Go Go.Cw Go.Proofs
set_option linter.unusedVariables false
set_option maxRecDepth 100000

/-- A sum over a list. -/
def sumL {α : Type} (f : α → Nat) : List α → Nat
  | [] => 0
  | a :: l => f a + sumL f l
theorem sumL_add {α : Type} {f g : α → Nat} : ∀ {l : List α}, sumL (fun a => f a + g a) l = sumL f l + sumL g l
  | [] => rfl
  | a :: l => by rw [sumL, sumL, sumL, sumL_add]; omega
theorem sumL_zero {α : Type} {f : α → Nat} : ∀ {l : List α}, (∀ a ∈ l, f a = 0) → sumL f l = 0
  | [], _ => rfl
  | a :: l, h => by rw [sumL, h a (List.mem_cons_self ..), sumL_zero fun b hb => h b (List.mem_cons_of_mem _ hb)]
theorem sumL_sumN {α : Type} {f : α → Nat → Nat} {l : List α} : ∀ {n : Nat}, sumL (fun a => sumN (f a) n) l = sumN (fun i => sumL (fun a => f a i) l) n
  | 0 => sumL_zero fun _ _ => rfl
  | n + 1 => by
    rw [sumN, ← sumL_sumN, ← sumL_add]; rfl
theorem sumL_one {α : Type} {p : α → Bool} : ∀ {l : List α}, sumL (fun a => if p a = true then 1 else 0) l = (l.filter p).length
  | [] => rfl
  | a :: l => by
    rw [sumL, sumL_one]
    by_cases h : p a = true
    · rw [if_pos h, List.filter_cons_of_pos h, List.length_cons]; omega
    · rw [if_neg h, List.filter_cons_of_neg h]; omega
theorem strS_nodup {l : List ByteArray} (h : strS l) : l.Nodup := List.Pairwise.imp (fun {a b} hab e => by subst e; rw [sLt_irr] at hab; cases hab) h
theorem names_nodup (x : Exams) : (namesX x).Nodup := strS_nodup (compactS_spec (sortS_asc _)).2
theorem names_mem {x : Exams} {s : Str} : s ∈ namesX x ↔ ∃ e ∈ x.exams, s ∈ e.studs := by
  unfold namesX
  rw [(compactS_spec (sortS_asc (allS x x.exams.length))).1, (sortS_perm _).mem_iff, allS_mem]
/-- The students that two exams share, counted among all. -/
theorem share {x : Exams} (h0 : examsE x = 0) {i k : Nat} {e f : Exam} (he : x.exams[i]? = some e) (hf : x.exams[k]? = some f) : sumL (fun s => if (pB (s ∈ e.studs) && pB (s ∈ f.studs)) = true then 1 else 0) (namesX x) = comN e.studs f.studs := by
  rw [sumL_one]
  unfold comN
  rw [List.countP_eq_length_filter]
  have hn := (fine_of h0).el i e he
  refine Nat.le_antisymm (nodup_len ((names_nodup x).filter _) fun s hs => ?_) (nodup_len (hn.2.filter _) fun s hs => ?_)
  · rw [List.mem_filter] at hs ⊢
    have := hs.2
    simp only [Bool.and_eq_true] at this
    exact ⟨by simpa using this.1, this.2⟩
  · rw [List.mem_filter] at hs ⊢
    refine ⟨names_mem.2 ⟨e, List.mem_of_getElem? he, hs.1⟩, ?_⟩
    simp only [Bool.and_eq_true]
    exact ⟨pB_t hs.1, hs.2⟩
/-- What two exams share if they have a relation. -/
noncomputable def cR (x : Exams) (a : List Nat) (r : Int) (i k : Nat) : Nat := match x.exams[i]?, x.exams[k]? with
  | some e, some f => if relQ x (a.getD i 0) (a.getD k 0) = r then comN e.studs f.studs else 0
  | _, _ => 0
noncomputable def pairSum (x : Exams) (a : List Nat) (r : Int) : Nat := sumN (fun i => sumN (fun k => if i < k then cR x a r i k else 0) x.exams.length) x.exams.length
theorem strain_sum {x : Exams} (h0 : examsE x = 0) {a : List Nat} {r : Int} : sumL (fun s => totS x a s r x.exams.length) (namesX x) = pairSum x a r := by
  have e1 : (fun s => totS x a s r x.exams.length) = fun s => sumN (fun i => sumN (fun k => if i < k then gS x a s r i k else 0) x.exams.length) x.exams.length := by
    funext s
    exact sumN_swap.symm
  rw [e1, sumL_sumN]
  refine sumN_congr fun i hi => ?_
  rw [sumL_sumN]
  refine sumN_congr fun k hk => ?_
  obtain ⟨e, he⟩ := getE hi
  obtain ⟨f, hf⟩ := getE hk
  by_cases hik : i < k
  · simp only [if_pos hik]
    unfold cR
    rw [he, hf]
    dsimp only
    by_cases hr : relQ x (a.getD i 0) (a.getD k 0) = r
    · rw [if_pos hr, ← share h0 he hf]
      refine congrArg (fun F => sumL F (namesX x)) (funext fun s => ?_)
      unfold gS
      rw [hasS_at he, hasS_at hf]
      generalize relQ x (a.getD i 0) (a.getD k 0) = ρ at *
      by_cases h1 : s ∈ e.studs <;> by_cases h2 : s ∈ f.studs <;> simp [h1, h2, hr]
    · rw [if_neg hr]
      exact sumL_zero fun s _ => by unfold gS; exact if_neg fun h => hr h.2.2
  · simp only [if_neg hik]
    exact sumL_zero fun _ _ => rfl
end Go.Proofs.YtpnghlibmpainaaGreat.Cw

/-
  Plain: a plan's costs for gaps.
-/
namespace Go.Proofs.YtpnghlibmpainaaGreat.Cw
open Go Go.Cw Go.Proofs
set_option linter.unusedVariables false
set_option maxRecDepth 100000

def sumZ (f : Nat → Int) : Nat → Int
  | 0 => 0
  | n + 1 => sumZ f n + f n
theorem sumZ_congr {f g : Nat → Int} : ∀ {n : Nat}, (∀ i, i < n → f i = g i) → sumZ f n = sumZ g n
  | 0, _ => rfl
  | n + 1, h => by rw [sumZ, sumZ, sumZ_congr fun i hi => h i (by omega), h n (by omega)]
theorem sumZ_zero {f : Nat → Int} {n : Nat} (h : ∀ i, i < n → f i = 0) : sumZ f n = 0 := by
  induction n with
  | zero => rfl
  | succ n ih => rw [sumZ, ih fun i hi => h i (by omega), h n (by omega)]; rfl
theorem sumZ_mul {f : Nat → Nat} {g : Int} : ∀ {n : Nat}, sumZ (fun i => (f i : Int) * g) n = (sumN f n : Int) * g
  | 0 => by simp [sumZ, sumN]
  | n + 1 => by rw [sumZ, sumN, sumZ_mul, Int.natCast_add, Int.add_mul]
theorem sum_gr {α : Type} {F : Nat → List α} {v : α → Int} : ∀ {n : Nat}, ((gr F n).map v).sum = sumZ (fun i => ((F i).map v).sum) n
  | 0 => rfl
  | n + 1 => by rw [gr_succ, List.map_append, List.sum_append, sum_gr, sumZ]
def valO {α : Type} (v : α → Int) : Option α → Int
  | some a => v a
  | none => 0
theorem sum_fm {α : Type} {h : Nat → Option α} {v : α → Int} : ∀ {m : Nat}, (((List.range m).filterMap h).map v).sum = sumZ (fun k => valO v (h k)) m
  | 0 => rfl
  | m + 1 => by
    rw [List.range_succ, List.filterMap_append, List.map_append, List.sum_append, sum_fm, sumZ]
    cases hm : h m <;> simp [hm, valO]
def valT (r : Nat) (t : Term1) : Int := if t.1.toNat = r then t.2 else 0
theorem sumR_none {T : List Term1} {r : Nat} (h : ∀ t ∈ T, t.1.toNat ≠ r) : sumR T r = 0 := by
  induction T with
  | nil => rfl
  | cons t T ih => rw [sumR_cons, if_neg (h t (List.mem_cons_self ..)), ih fun q hq => h q (List.mem_cons_of_mem _ hq)]; rfl
theorem sumR_upto {l : List Pair} {g : Pair → Option Term1} {r : Nat} : ∀ {n : Nat}, n ≤ l.length → sumR (upto l (fun _ => g) n) r = ((l.take n).map fun p => valO (valT r) (g p)).sum
  | 0, _ => rfl
  | n + 1, hn => by
    obtain ⟨p, hp⟩ := getE (show n < l.length by omega)
    rw [take_snoc hp, List.map_append, List.sum_append, ← sumR_upto (by omega)]
    cases hg : g p with
    | none => rw [upto_none hp hg]; simp [hg, valO]
    | some t => rw [upto_some hp hg, sumR_app, sumR_cons]; simp [hg, valO, valT, sumR_nil]
def gapR (x : Exams) (r : Nat) : Int := if r = 2 then x.gaps.row else if r = 3 then x.gaps.day else x.gaps.near
section
variable {x : Exams} {pl : List Int} {r : Nat} (hp : planP (mdl x) pl) (hr : r = 2 ∨ r = 3 ∨ r = 4)
include hp hr
theorem pair_val {i k : Nat} {e f : Exam} {q p : Seat} (hik : i < k) (he : x.exams[i]? = some e) (hf : x.exams[k]? = some f) (hq : spotV x pl i = some q) (hq2 : spotV x pl k = some p) : valO (fun y => valO (valT r) (pairT (mdl x) pl y)) (pairS (setsX x) (entX x) r i k) = entX x r i k q p := by
  have _ := hr
  obtain ⟨a, q', ha, ha2, ha3⟩ := spot_ex hp he
  rw [hq] at ha3; injection ha3 with ha3; subst ha3
  obtain ⟨b, p', hb, hb2, hb3⟩ := spot_ex hp hf
  rw [hq2] at hb3; injection hb3 with hb3; subst hb3
  have ht := tab_at (E := entX x) (u := r) (i := i) (k := k) ha2 hb2
  unfold pairS
  rw [sets_at he, sets_at hf]
  dsimp only
  by_cases hany : (tabS (entX x) r i k (seatsV x e) (seatsV x f)).any (fun n => n != 0) = true
  · rw [if_pos ⟨hik, hany⟩]
    have hcl : (mdl x).classes[((k : Nat) : Int).toNat]? = some ((seatsV x f).map (optS x)) := by rw [Int.toNat_natCast]; exact cls_at hf
    have h1 : pairT (mdl x) pl ⟨i, k, r, tabS (entX x) r i k (seatsV x e) (seatsV x f)⟩ = some (((r : Nat) : Int), entV (mdl x) ⟨i, k, r, tabS (entX x) r i k (seatsV x e) (seatsV x f)⟩ a b) :=
      by unfold pairT; dsimp only; rw [Int.toNat_natCast, Int.toNat_natCast, ha, hb]; dsimp only; rw [if_pos ⟨Int.natCast_nonneg _, Int.natCast_nonneg _⟩]
    have h2 : entV (mdl x) ⟨i, k, r, tabS (entX x) r i k (seatsV x e) (seatsV x f)⟩ a b = entX x r i k q p := by
      unfold entV; dsimp only; rw [hcl]; dsimp only
      rw [List.length_map, show ((a : Int) * (seatsV x f).length + b).toNat = a * (seatsV x f).length + b from by rw [← Int.natCast_mul, ← Int.natCast_add, Int.toNat_natCast], ht]; rfl
    show valO (valT r) (pairT _ _ _) = _
    rw [h1, h2]
    show (if ((r : Nat) : Int).toNat = r then _ else 0) = _
    rw [Int.toNat_natCast, if_pos rfl]
  · rw [if_neg (fun c => hany c.2)]
    show 0 = _
    apply Classical.byContradiction
    intro hne
    exact hany (List.any_eq_true.2 ⟨_, List.mem_of_getElem? ht, by simpa using fun c => hne c.symm⟩)
theorem ent_gap {i k : Nat} {e f : Exam} {q p : Seat} {s t : Sitting} (he : x.exams[i]? = some e) (hf : x.exams[k]? = some f) (hs : x.sits[q.sit]? = some s) (ht : x.sits[p.sit]? = some t) : entX x r i k q p = ((if relE x q.sit p.sit s t = r then comN e.studs f.studs else 0 : Nat) : Int) * gapR x r := by
  have _ := hp
  rw [rel_of hs ht he hf]
  by_cases hrel : relE x q.sit p.sit s t = (r : Int)
  · rw [if_pos hrel]
    unfold entC gapR
    rw [if_neg (by omega), if_neg (by omega), if_neg (by omega), if_neg (fun c => c hrel.symm)]
    rcases hr with rfl | rfl | rfl <;> simp
  · rw [if_neg hrel]
    unfold entC
    rw [if_neg (by omega), if_neg (by omega), if_neg (by omega), if_pos (fun c => hrel c.symm)]
    simp
theorem gap_sum {a : List Nat} (ha : ∀ i q, i < x.exams.length → spotV x pl i = some q → a.getD i 0 = q.sit) : sumR (termsV (mdl x) pl) r = (pairSum x a r : Int) * gapR x r := by
  have hSl : (setsX x).length = x.exams.length := List.length_map _
  unfold termsV
  rw [sumR_app, sumR_app]
  have z1 : sumR (gr (chgT (mdl x) pl) pl.length) r = 0 := sumR_none fun t ht => by
    obtain ⟨i, -, h⟩ := gr_mem.1 ht
    unfold chgT at h
    split at h
    · rename_i l o hl ho
      split at h
      · cases h
      · split at h
        · rename_i y hy
          obtain ⟨c, hc, rfl⟩ := List.mem_map.1 h
          have hl : (clsX x)[i]? = some l := hl
          unfold clsX at hl
          rw [List.getElem?_map, Option.map_eq_some_iff] at hl
          obtain ⟨e, -, rfl⟩ := hl
          obtain ⟨q, -, rfl⟩ := List.mem_map.1 (List.mem_of_getElem? hy)
          have hch : (optS x q).charges = [] ∨ ∃ c, (optS x q).charges = [⟨5, c⟩] := by
            unfold optS
            split
            · dsimp only
              split
              · exact .inr ⟨_, rfl⟩
              · exact .inl rfl
            · exact .inl rfl
          rcases hch with e | ⟨v, e⟩
          · rw [e] at hc; cases hc
          · rw [e, List.mem_singleton] at hc
            subst hc
            show (5 : Int).toNat ≠ r
            have : (5 : Int).toNat = 5 := rfl
            omega
        · cases h
    · cases h
  have z3 : sumR (cntsT (mdl x) pl (mdl x).counts.length) r = 0 := sumR_none fun t ht => by
    obtain ⟨c, hc, rfl⟩ := List.mem_map.1 ht
    obtain ⟨s, -, hc⟩ := gr_mem.1 (List.mem_of_mem_take hc)
    obtain ⟨u, -, hc⟩ := fm_mem.1 hc
    unfold countS at hc
    split at hc
    · injection hc with hc
      subst hc
      show (1 : Int).toNat ≠ r
      have : (1 : Int).toNat = 1 := rfl
      omega
    · cases hc
  rw [z1, z3]
  have hpr : sumR (prsT (mdl x) pl (mdl x).pairs.length) r = sumZ (fun u => sumZ (fun i => sumZ (fun k => valO (fun y => valO (valT r) (pairT (mdl x) pl y)) (pairS (setsX x) (entX x) u i k)) x.exams.length) x.exams.length) 7 := by
    unfold prsT
    rw [sumR_upto (Nat.le_refl _), List.take_length]
    show ((prsU (setsX x) (entX x) 7).map _).sum = _
    unfold prsU
    rw [sum_gr]
    refine sumZ_congr fun u _ => ?_
    rw [sum_gr, hSl]
    refine sumZ_congr fun i _ => ?_
    unfold prsI
    exact sum_fm
  have hu : ∀ u, u < 7 → u ≠ r → sumZ (fun i => sumZ (fun k => valO (fun y => valO (valT r) (pairT (mdl x) pl y)) (pairS (setsX x) (entX x) u i k)) x.exams.length) x.exams.length = 0 := fun u _ hne => by
    refine sumZ_zero fun i _ => sumZ_zero fun k _ => ?_
    cases hps : pairS (setsX x) (entX x) u i k with
    | none => rfl
    | some y =>
      obtain ⟨-, A, B, -, -, rfl⟩ := pairS_at hps
      show valO (valT r) (pairT _ _ _) = 0
      cases hpt : pairT (mdl x) pl ⟨i, k, u, tabS (entX x) u i k A B⟩ with
      | none => rfl
      | some t =>
        have ht1 : t.1 = (u : Int) := by
          unfold pairT at hpt
          split at hpt
          · split at hpt
            · injection hpt with hpt; subst hpt; rfl
            · cases hpt
          · cases hpt
        show (if t.1.toNat = r then t.2 else 0) = 0
        rw [ht1, Int.toNat_natCast, if_neg hne]
  have hr7 : sumZ (fun u => sumZ (fun i => sumZ (fun k => valO (fun y => valO (valT r) (pairT (mdl x) pl y)) (pairS (setsX x) (entX x) u i k)) x.exams.length) x.exams.length) 7 = sumZ (fun i => sumZ (fun k => valO (fun y => valO (valT r) (pairT (mdl x) pl y)) (pairS (setsX x) (entX x) r i k)) x.exams.length) x.exams.length := by
    generalize hF : (fun u => sumZ (fun i => sumZ (fun k => valO (fun y => valO (valT r) (pairT (mdl x) pl y)) (pairS (setsX x) (entX x) u i k)) x.exams.length) x.exams.length) = F at *
    have hu : ∀ u, u < 7 → u ≠ r → F u = 0 := fun u h1 h2 => by rw [← hF]; exact hu u h1 h2
    have hFr : F r = sumZ (fun i => sumZ (fun k => valO (fun y => valO (valT r) (pairT (mdl x) pl y)) (pairS (setsX x) (entX x) r i k)) x.exams.length) x.exams.length := by rw [← hF]
    rw [← hFr]
    have g := fun u (h1 : u < 7) => hu u h1
    simp only [sumZ]
    rcases hr with rfl | rfl | rfl
    · rw [g 0 (by decide) (by decide), g 1 (by decide) (by decide), g 3 (by decide) (by decide), g 4 (by decide) (by decide), g 5 (by decide) (by decide), g 6 (by decide) (by decide)]; omega
    · rw [g 0 (by decide) (by decide), g 1 (by decide) (by decide), g 2 (by decide) (by decide), g 4 (by decide) (by decide), g 5 (by decide) (by decide), g 6 (by decide) (by decide)]; omega
    · rw [g 0 (by decide) (by decide), g 1 (by decide) (by decide), g 2 (by decide) (by decide), g 3 (by decide) (by decide), g 5 (by decide) (by decide), g 6 (by decide) (by decide)]; omega
  rw [hpr, hr7]
  have hfin : ∀ i, i < x.exams.length → sumZ (fun k => valO (fun y => valO (valT r) (pairT (mdl x) pl y)) (pairS (setsX x) (entX x) r i k)) x.exams.length = ((sumN (fun k => if i < k then cR x a r i k else 0) x.exams.length : Nat) : Int) * gapR x r := fun i hi => by
    rw [← sumZ_mul]
    refine sumZ_congr fun k hk => ?_
    by_cases hik : i < k
    · obtain ⟨e, he⟩ := getE hi
      obtain ⟨f, hf⟩ := getE hk
      obtain ⟨o, q, ho, hq, hs⟩ := spot_ex hp he
      obtain ⟨o2, p, ho2, hq2, hs2⟩ := spot_ex hp hf
      obtain ⟨s, -, hsq, -, -⟩ := seat_in (List.mem_of_getElem? hq)
      obtain ⟨t, -, htp, -, -⟩ := seat_in (List.mem_of_getElem? hq2)
      rw [pair_val hp hr hik he hf hs hs2, ent_gap hp hr he hf hsq htp, if_pos hik]
      unfold cR
      rw [he, hf]
      dsimp only
      rw [ha i q hi hs, ha k p hk hs2, relQ_at hsq htp]
    · have : pairS (setsX x) (entX x) r i k = none := by
        cases hps : pairS (setsX x) (entX x) r i k with
        | none => rfl
        | some y => exact absurd (pairS_at hps).1 hik
      rw [this, if_neg hik]
      simp [valO]
  rw [sumZ_congr hfin, sumZ_mul]
  unfold pairSum
  omega
end
end Go.Proofs.YtpnghlibmpainaaGreat.Cw

/-
  The law on the costs of plans of examinations.
-/
namespace Go.Proofs.YtpnghlibmpainaaGreat.Cw
open Go Go.Cw Go.Proofs
set_option linter.unusedVariables false
set_option maxRecDepth 100000
set_option maxHeartbeats 8000000

/-- The sittings of a plan. -/
noncomputable def sitsP (x : Exams) (pl : List Int) : List Nat := atS x (placesTo (mdl x) pl x.exams.length)
theorem placesV_to {x : Exams} {pl : List Int} (h : completeE (mdl x) pl = 0) : placesV (mdl x) pl = placesTo (mdl x) pl x.exams.length := by
  have h3 : pl.length = x.exams.length := by rw [(complete_plan h).2.1]; exact List.length_map _
  unfold placesV; rw [if_pos h, h3]
theorem place_where {x : Exams} {pl : List Int} (h0 : examsE x = 0) (hp : planP (mdl x) pl) {i : Nat} {q : Seat} (hi : i < x.exams.length) (hq : spotV x pl i = some q) : ∃ P, (placesTo (mdl x) pl x.exams.length)[i]? = some P ∧ whereP x P ∧ sitN x P = q.sit := by
  obtain ⟨e, he⟩ := getE hi
  obtain ⟨o, q', ho, hq', hs⟩ := spot_ex hp he
  rw [hs] at hq; injection hq with hq; subst hq
  obtain ⟨s, r, hs1, hr1, -⟩ := seat_in (List.mem_of_getElem? hq')
  have hw := where_seat h0 hs1 hr1
  refine ⟨_, (places_at hp _ (Nat.le_refl _)).2 i hi q' hs, ?_⟩
  by_cases hwp : whereP x (optS x q').place
  · refine ⟨hwp, ?_⟩
    rw [whereA_t hwp] at hw
    injection hw with hw
    injection hw with hw _
    injection hw with hw
    injection hw with hw
    injection hw with _ hw
    unfold sitN
    omega
  · rw [whereA_f hwp] at hw
    injection hw with hw
    injection hw with _ hw
    injection hw with _ hw
    injection hw with hw _
    injection hw with hw
    injection hw with hw
    cases hw
theorem sitsP_at {x : Exams} {pl : List Int} (h0 : examsE x = 0) (hp : planP (mdl x) pl) : ∀ i q, i < x.exams.length → spotV x pl i = some q → (sitsP x pl).getD i 0 = q.sit := fun i q hi hq => by
  obtain ⟨P, h1, -, h2⟩ := place_where h0 hp hi hq
  unfold sitsP atS
  rw [List.getD_eq_getElem?_getD, List.getElem?_map, h1]
  exact h2
theorem c_strainsG (x : Exams) (pl : List Int) (h : MadeX x) (hc : completeE (mdl x) pl = 0) : PCall Tryz.prog 30 [ag x.cells, .pv (.sl 5 ((placesV (mdl x) pl).map Placed.row))] (fun r => r = .tup [.pv (.sl 4 ((namesX x).map (strainR x (sitsP x pl)))), vint .i64 0]) := by
  have h0 := made_ok h
  have hp := (complete_plan hc).2
  have hen := h.en
  rw [placesV_to hc]
  have hl := (places_at hp x.exams.length (Nat.le_refl _)).1
  have h1 : PCall Tryz.prog 30 [ag x.cells, .pv (.sl 5 ((placesTo (mdl x) pl x.exams.length).map Placed.row))] (fun r => r = strainsA x (placesTo (mdl x) pl x.exams.length)) := (c_strains0 x (placesTo (mdl x) pl x.exams.length) h0 hl (by omega)).weak fun r h => ⟨_, h.le, rfl⟩
  obtain ⟨e1, e2⟩ := strains_good h0 hl (fun j hj P hP => by
    obtain ⟨e, he⟩ := getE (show j < x.exams.length by omega)
    obtain ⟨o, q, ho, hq, hs⟩ := spot_ex hp he
    obtain ⟨P', g1, g2, -⟩ := place_where h0 hp (by omega) hs
    rw [hP] at g1; injection g1 with g1; subst g1; exact g2)
  unfold strainsA at h1
  rwa [e1, e2] at h1
theorem sumL_take {α : Type} {f : α → Nat} : ∀ {l : List α} {j : Nat} {a : α}, l[j]? = some a → sumL f (l.take (j + 1)) = sumL f (l.take j) + f a
  | [], _, _, h => by simp at h
  | b :: l, 0, a, h => by
    have : b = a := by simpa using h
    subst this
    simp [sumL]
  | b :: l, j + 1, a, h => by
    have h : l[j]? = some a := by simpa using h
    rw [List.take_succ_cons, List.take_succ_cons, sumL, sumL, sumL_take h]; omega
theorem sumL_le {α : Type} {f : α → Nat} {b : Nat} (h : ∀ a, f a ≤ b) : ∀ {l : List α}, sumL f l ≤ l.length * b
  | [] => by simp [sumL]
  | a :: l => by
    have h1 := sumL_le h (l := l)
    have h2 := h a
    rw [sumL, List.length_cons, Nat.succ_mul]; omega
theorem pairSum_le {x : Exams} (h0 : examsE x = 0) {a : List Nat} {r : Int} : pairSum x a r ≤ x.exams.length * (x.exams.length * 64) := by
  refine sumN_le fun i hi => sumN_le fun k hk => ?_
  split
  · unfold cR
    split
    · rename_i e f he hf
      split
      · have := (fine_of h0).el _ _ he
        have h2 := comN_len (a := e.studs) (b := f.studs)
        omega
      · omega
    · omega
  · omega
/-- What a plan costs for a gap. -/
theorem gap_at {x : Exams} {pl : List Int} (hx : MadeX x) (hc : completeE (mdl x) pl = 0) {r : Nat} (hr : r = 2 ∨ r = 3 ∨ r = 4) (hg : 0 ≤ gapR x r ∧ gapR x r ≤ 1000) : (rulesV (mdl x) pl)[r]? = some ((sumL (fun s => totS x (sitsP x pl) s r x.exams.length) (namesX x) : Int) * gapR x r) := by
  have h0 := made_ok hx
  have hp := (complete_plan hc).2
  have hn := hx.en
  have h1 := rules_at (m := mdl x) (T := termsV (mdl x) pl) (r := r) (show r < (7 : Int).toNat by have : (7 : Int).toNat = 7 := rfl; omega) (terms_ok (model_good (mdl_ok hx)))
  rw [gap_sum hp hr (sitsP_at h0 hp)] at h1
  have h2 := pairSum_le h0 (a := sitsP x pl) (r := r)
  have h3 : x.exams.length * (x.exams.length * 64) ≤ 4 * (4 * 64) := Nat.mul_le_mul hn (Nat.mul_le_mul hn (Nat.le_refl _))
  have h4 : (pairSum x (sitsP x pl) r : Int) * gapR x r ≤ 1024 * 1000 := Int.mul_le_mul (by omega) hg.2 hg.1 (by decide)
  rw [strain_sum h0]
  unfold minC at h1
  rw [if_pos (by omega)] at h1
  exact h1
theorem names_len {x : Exams} (hx : MadeX x) : (namesX x).length ≤ 256 := by
  have h1 := compactS_len (sortS (allS x x.exams.length))
  rw [sortS_len] at h1
  have h2 := allS_len (made_ok hx) (i := x.exams.length)
  have := hx.en
  unfold namesX; omega
theorem mul_bnd {n : Nat} {g : Int} (hn : n ≤ 4096) (hg : 0 ≤ g ∧ g ≤ 1000) : 0 ≤ (n : Int) * g ∧ (n : Int) * g ≤ 4096000 :=
  ⟨Int.mul_nonneg (by omega) hg.1, Int.le_trans (Int.mul_le_mul (show (n : Int) ≤ 4096 by omega) hg.2 hg.1 (by decide)) (by decide)⟩
theorem mul_next {f : Str → Nat} {l : List Str} {j : Nat} {s : Str} {g : Int} (h : l[j]? = some s) : ((sumL f (l.take (j + 1)) : Nat) : Int) * g = (sumL f (l.take j) : Int) * g + (f s : Int) * g := by
  rw [sumL_take h, Int.natCast_add, Int.add_mul]
theorem c_examscosts (t : List Int) : PCall Tryz.prog 7 [.pv (encInts t)] (fun r => r = vbool true) := by
  refine acall_of tok mixed 131 rfl (fn := Tryz.f7) (c := Tryz.f7.body.getD .skip) (by kernel_rfl) (by kernel_rfl) (by kernel_rfl) rfl 0 rfl ?_
  repeat' (first | ((change vcFun _ _ _ _ _; refine call_new [.pv (encInts t)] rfl (c_roll t) (fun _ _ => rfl) ?_)) | ((change vcFun _ _ _ _ _; refine call_one (i := 0) rfl (fun _ _ => rfl) [.ptr 0 2 0 0] rfl (c_madeG t 0 (by assumption) (Nat.zero_le _)) ?_; rintro _ _ ⟨x, ky, hky, hx, rfl, rfl⟩; refine ⟨_, rfl, fun _ _ => rfl, fun _ _ => rfl, ?_⟩)) | ((change vcFun _ _ _ _ _; refine call_frz rfl (by repeat' (first | trivial | refine And.intro ?_ ?_ | (show 0 + _ ≤ List.length _; simp))) ALeL.refl (c_buildG x hx) ?_; rintro _ rfl)) | ((change vcFun _ _ _ _ _; refine call_one (i := 0) rfl (fun _ _ => rfl) [.ptr 0 2 0 0, ag (mdl x).cells, vbool true] rfl (c_dplanX t ky (by assumption) hky (mdl x) (model_sized (mdl_ok hx))) ?_; rintro _ _ ⟨q0, pl, kz, hkz, hle, rfl, rfl⟩; refine ⟨_, rfl, fun _ _ => rfl, fun _ _ => rfl, ?_⟩)) | ((change vcFun _ _ _ _ _; refine call_frz rfl (by repeat' (first | trivial | refine And.intro ?_ ?_ | (show 0 + _ ≤ List.length _; simp))) (le_args2 (ALe.pv hle)) (c_placement (mdl x) pl (mdl_laid hx)) ?_; rintro _ rfl)) | ((change vcFun _ _ _ _ _; refine call_frz rfl (by repeat' (first | trivial | refine And.intro ?_ ?_ | (show 0 + _ ≤ List.length _; simp))) (le_args2 (ALe.pv hle)) (c_cost19 (mdl x) pl (mdl_ok hx) (mdl_laid hx) (plan_of.1 (complete_plan (by assumption)).2).1 (mdl_loads hx)) ?_; rintro _ rfl)) | ((change vcFun _ _ _ _ _; refine call_frz rfl (by repeat' (first | trivial | refine And.intro ?_ ?_ | (show 0 + _ ≤ List.length _; simp))) ALeL.refl (c_strainsG x pl hx (by assumption)) ?_; rintro _ rfl)) | refine o1 ?_ | refine o2 ?_ | refine k1 ?_ | refine k2 ?_ | refine k3 ?_ | refine k4 ?_ | refine k6 ?_ | refine k7 ?_ | refine k8 ?_ | refine And.intro ?_ ?_ | exact trivial | refine o3 ?_ | refine o4 ?_ | refine o5 ?_ | refine o6 ?_ | refine k5 ?_ | (intro h; first | exact Bool.noConfusion h | exact nz _ h | exact nl h | (simp at h; done) | (simp at h; first | (exfalso; omega) | skip) | skip) | (change retOk _ _ _ _; refine ret_pure rfl trivial ?_) | exact (rfl : allOne _ = true) | (refine (?_ : (0 : Int) ≤ _); omega) | (refine (?_ : _ ≠ _); omega) | (refine (?_ : srcLen _ = rowsLen _); rfl) | exact Nat.le_of_ble_eq_true rfl | exact (by kernel_rfl : drawOk _ _ = true) | refine eqv_len_map ?_ | refine eqv_size ?_ | refine eqv_put (eqv_ck ?_) | refine eqv_zero ?_ | refine eqv_wrap (by omega) (by omega) ?_ | refine eqv_u64 (by omega) (by omega) ?_ | refine eqv_u8 (by omega) (by omega) ?_ | refine eqv_to _ (set_map rfl rfl) ?_ | refine ⟨_, _, (by first | rfl | assumption), at_map (by assumption), ?_⟩ | refine ⟨_, _, (by first | rfl | assumption), (by assumption), ?_⟩ | refine ⟨_, at_map (by assumption), (by decide), ?_⟩ | refine ⟨_, at_map (by assumption), ?_⟩ | (refine (?_ : _ ≤ 140737488355328); simp [rowsLen] <;> omega) | (refine (?_ : _ ≤ 9223372036854775807); simp [rowsLen] <;> omega) | (refine (?_ : _ = rowsLen _); simp [rowsLen] <;> omega) | refine eqv_to _ (app_row rfl) (eqv_to _ app_len ?_) | refine eqv_to _ (app_first rfl) (eqv_to 1 rfl ?_) | refine idx_sl (at_map (by assumption)) (by omega) ?_ | refine idx_ms _ (by first | rfl | assumption) (by first | assumption | omega) ?_ | (change vcFun _ _ _ _ _; refine call_eq rfl (by repeat' (first | trivial | refine And.intro ?_ ?_ | (show 0 + _ ≤ List.length _; simp))) ALeL.refl (c_light t) rfl ?_) | (change vcFun _ _ _ _ _; refine call_eq rfl (by repeat' (first | trivial | refine And.intro ?_ ?_ | (show 0 + _ ≤ List.length _; simp))) ALeL.refl (awake_ok) rfl ?_) | (change vcFunD _ _ _ _ _; refine callD_eq rfl (by repeat' (first | trivial | refine And.intro ?_ ?_ | (show 0 + _ ≤ List.length _; simp))) ALeL.refl (awake_ok) rfl ?_) | fail)
  all_goals first
    | rfl
    | skip
  all_goals have hrl : (rulesV (mdl x) pl).length = 7 := run_len
  · exfalso; omega
  have hcz : completeE (mdl x) pl = 0 := by assumption
  have h0 := made_ok hx
  obtain ⟨q1, q2, q3, -⟩ := gaps_ok h0
  have hL2 := gap_at hx hcz (.inl rfl) q1
  have hL3 := gap_at hx hcz (.inr (.inl rfl)) q2
  have hL4 := gap_at hx hcz (.inr (.inr rfl)) q3
  have hnl := names_len hx
  have hen := hx.en
  have htl := fun (r : Int) s => totS_le (x := x) (a := sitsP x pl) (s := s) (r := r) (n := x.exams.length)
  have hnn : x.exams.length * x.exams.length ≤ 4 * 4 := Nat.mul_le_mul hen hen
  have hsl := fun (r : Int) (l : List Str) => sumL_le (f := fun s => totS x (sitsP x pl) s r x.exams.length) (b := 16) (fun s => by have := htl r s; omega) (l := l)
  unfold gapR at hL2 hL3 hL4
  simp only [if_true] at hL2
  rw [if_neg (by decide), if_pos rfl] at hL3
  rw [if_neg (by decide), if_neg (by decide)] at hL4
  have hst : ∀ s, strainR x (sitsP x pl) s = [es s, ei (totS x (sitsP x pl) s 2 x.exams.length), ei (totS x (sitsP x pl) s 3 x.exams.length), ei (totS x (sitsP x pl) s 4 x.exams.length)] := fun s => rfl
  obtain ⟨f2, hf2⟩ : ∃ f : Str → Nat, f = fun s => totS x (sitsP x pl) s 2 x.exams.length := ⟨_, rfl⟩
  obtain ⟨f3, hf3⟩ : ∃ f : Str → Nat, f = fun s => totS x (sitsP x pl) s 3 x.exams.length := ⟨_, rfl⟩
  obtain ⟨f4, hf4⟩ : ∃ f : Str → Nat, f = fun s => totS x (sitsP x pl) s 4 x.exams.length := ⟨_, rfl⟩
  have hL2 : (rulesV (mdl x) pl)[2]? = some ((sumL f2 (namesX x) : Int) * x.gaps.row) := by rw [hf2]; exact hL2
  have hL3 : (rulesV (mdl x) pl)[3]? = some ((sumL f3 (namesX x) : Int) * x.gaps.day) := by rw [hf3]; exact hL3
  have hL4 : (rulesV (mdl x) pl)[4]? = some ((sumL f4 (namesX x) : Int) * x.gaps.near) := by rw [hf4]; exact hL4
  have hst : ∀ s, strainR x (sitsP x pl) s = [es s, ei (f2 s), ei (f3 s), ei (f4 s)] := fun s => by rw [hf2, hf3, hf4]; rfl
  have b2 : ∀ s, f2 s ≤ 16 := fun s => by rw [hf2]; have := htl 2 s; dsimp only; omega
  have b3 : ∀ s, f3 s ≤ 16 := fun s => by rw [hf3]; have := htl 3 s; dsimp only; omega
  have b4 : ∀ s, f4 s ≤ 16 := fun s => by rw [hf4]; have := htl 4 s; dsimp only; omega
  clear hf2 hf3 hf4 hsl htl
  generalize rulesV (mdl x) pl = L at *
  generalize hSR : strainR x (sitsP x pl) = SR at *
  generalize namesX x = NS at *
  refine loop_for (fun j : Nat => [(4, .ptr 0 8 0 0), (11, .pv (encInts L)), (13, .pv (.sl 4 (NS.map SR))), (15, vint .i64 ((sumL f2 (NS.take j) : Int) * x.gaps.row)), (16, vint .i64 ((sumL f3 (NS.take j) : Int) * x.gaps.day)), (17, vint .i64 ((sumL f4 (NS.take j) : Int) * x.gaps.near)), (18, vint .i64 j)]) (fun j => [some ⟨33, 8, false, .box (pvs x.cells)⟩]) (fun j => j ≤ NS.length) (fun j => NS.length - j) 0 (Nat.zero_le _) ?_ ?_
  · have z : ∀ (f : Str → Nat) (g : Int), ((sumL f (NS.take 0) : Nat) : Int) * g = 0 := fun f g => by rw [List.take_zero]; simp [sumL]
    rw [z, z, z]
    exact back [1] rfl rfl (by repeat' (first | exact trivial | exact rfl | exact ren_get rfl | refine kept_ob rfl ?_ | exact ⟨_, rfl, ALe.refl⟩ | refine And.intro ?_ ?_)) (by repeat' (first | exact trivial | exact rfl | exact ren_get rfl | refine kept_ob rfl ?_ | exact ⟨_, rfl, ALe.refl⟩ | refine And.intro ?_ ?_))
  intro j hj
  have hjl : ∀ {f : Str → Nat}, (∀ s, f s ≤ 16) → sumL f (NS.take j) ≤ 4096 := fun h => by
    have := sumL_le h (l := NS.take j)
    rw [List.length_take] at this; omega
  have p2 := mul_bnd (hjl b2) q1
  have p3 := mul_bnd (hjl b3) q2
  have p4 := mul_bnd (hjl b4) q3
  rcases Nat.lt_or_ge j NS.length with hlt | hge
  · obtain ⟨s, hs⟩ := getE hlt
    have hsr : (NS.map SR)[j]? = some [es s, ei (f2 s), ei (f3 s), ei (f4 s)] := by rw [List.getElem?_map, hs, ← hst]; rfl
    have c2 := b2 s
    have c3 := b3 s
    have c4 := b4 s
    have n2 := mul_next (f := f2) (g := x.gaps.row) hs
    have n3 := mul_next (f := f3) (g := x.gaps.day) hs
    have n4 := mul_next (f := f4) (g := x.gaps.near) hs
    generalize ((sumL f2 (NS.take j) : Nat) : Int) * x.gaps.row = P2 at *
    generalize ((sumL f3 (NS.take j) : Nat) : Int) * x.gaps.day = P3 at *
    generalize ((sumL f4 (NS.take j) : Nat) : Int) * x.gaps.near = P4 at *
    repeat' (first | (refine idx_sl (k := j) hsr rfl ?_) | (refine eqv_mul (by omega) (by omega) (fun _ _ => ?_)) | refine o1 ?_ | refine o2 ?_ | refine k1 ?_ | refine k2 ?_ | refine k3 ?_ | refine k4 ?_ | refine k6 ?_ | refine k7 ?_ | refine k8 ?_ | refine And.intro ?_ ?_ | exact trivial | refine o3 ?_ | refine o4 ?_ | refine o5 ?_ | refine o6 ?_ | refine k5 ?_ | (intro h; first | exact Bool.noConfusion h | exact nz _ h | exact nl h | (simp at h; done) | (simp at h; first | (exfalso; omega) | skip) | skip) | (change retOk _ _ _ _; refine ret_pure rfl trivial ?_) | exact (rfl : allOne _ = true) | (refine (?_ : (0 : Int) ≤ _); omega) | (refine (?_ : _ ≠ _); omega) | (refine (?_ : srcLen _ = rowsLen _); rfl) | exact Nat.le_of_ble_eq_true rfl | exact (by kernel_rfl : drawOk _ _ = true) | refine eqv_len_map ?_ | refine eqv_size ?_ | refine eqv_put (eqv_ck ?_) | refine eqv_zero ?_ | refine eqv_wrap (by omega) (by omega) ?_ | refine eqv_u64 (by omega) (by omega) ?_ | refine eqv_u8 (by omega) (by omega) ?_ | refine eqv_to _ (set_map rfl rfl) ?_ | refine ⟨_, _, (by first | rfl | assumption), at_map (by assumption), ?_⟩ | refine ⟨_, _, (by first | rfl | assumption), (by assumption), ?_⟩ | refine ⟨_, at_map (by assumption), (by decide), ?_⟩ | refine ⟨_, at_map (by assumption), ?_⟩ | (refine (?_ : _ ≤ 140737488355328); simp [rowsLen] <;> omega) | (refine (?_ : _ ≤ 9223372036854775807); simp [rowsLen] <;> omega) | (refine (?_ : _ = rowsLen _); simp [rowsLen] <;> omega) | refine eqv_to _ (app_row rfl) (eqv_to _ app_len ?_) | refine eqv_to _ (app_first rfl) (eqv_to 1 rfl ?_) | refine idx_sl (at_map (by assumption)) (by omega) ?_ | refine idx_ms _ (by first | rfl | assumption) (by first | assumption | omega) ?_ | fail)
    refine ⟨j + 1, hlt, by omega, ?_⟩
    rw [n2, n3, n4]
    exact back [0] rfl rfl (by repeat' (first | exact trivial | exact rfl | exact ren_get rfl | refine kept_ob rfl ?_ | exact ⟨_, rfl, ALe.refl⟩ | refine And.intro ?_ ?_)) (by repeat' (first | exact trivial | exact rfl | exact ren_get rfl | refine kept_ob rfl ?_ | exact ⟨_, rfl, ALe.refl⟩ | refine And.intro ?_ ?_))
  · obtain rfl : j = NS.length := by omega
    rw [List.take_length] at *
    repeat' (first | (refine idx_sl (k := 2) (at_map hL2) rfl ?_) | (refine idx_sl (k := 3) (at_map hL3) rfl ?_) | (refine idx_sl (k := 4) (at_map hL4) rfl ?_) | refine o1 ?_ | refine o2 ?_ | refine k1 ?_ | refine k2 ?_ | refine k3 ?_ | refine k4 ?_ | refine k6 ?_ | refine k7 ?_ | refine k8 ?_ | refine And.intro ?_ ?_ | exact trivial | refine o3 ?_ | refine o4 ?_ | refine o5 ?_ | refine o6 ?_ | refine k5 ?_ | (intro h; first | exact Bool.noConfusion h | exact nz _ h | exact nl h | (simp at h; done) | (simp at h; first | (exfalso; omega) | skip) | skip) | (change retOk _ _ _ _; refine ret_pure rfl trivial ?_) | exact (rfl : allOne _ = true) | (refine (?_ : (0 : Int) ≤ _); omega) | (refine (?_ : _ ≠ _); omega) | (refine (?_ : srcLen _ = rowsLen _); rfl) | exact Nat.le_of_ble_eq_true rfl | exact (by kernel_rfl : drawOk _ _ = true) | refine eqv_len_map ?_ | refine eqv_size ?_ | refine eqv_put (eqv_ck ?_) | refine eqv_zero ?_ | refine eqv_wrap (by omega) (by omega) ?_ | refine eqv_u64 (by omega) (by omega) ?_ | refine eqv_u8 (by omega) (by omega) ?_ | refine eqv_to _ (set_map rfl rfl) ?_ | refine ⟨_, _, (by first | rfl | assumption), at_map (by assumption), ?_⟩ | refine ⟨_, _, (by first | rfl | assumption), (by assumption), ?_⟩ | refine ⟨_, at_map (by assumption), (by decide), ?_⟩ | refine ⟨_, at_map (by assumption), ?_⟩ | (refine (?_ : _ ≤ 140737488355328); simp [rowsLen] <;> omega) | (refine (?_ : _ ≤ 9223372036854775807); simp [rowsLen] <;> omega) | (refine (?_ : _ = rowsLen _); simp [rowsLen] <;> omega) | refine eqv_to _ (app_row rfl) (eqv_to _ app_len ?_) | refine eqv_to _ (app_first rfl) (eqv_to 1 rfl ?_) | refine idx_sl (at_map (by assumption)) (by omega) ?_ | refine idx_ms _ (by first | rfl | assumption) (by first | assumption | omega) ?_ | (change vcFun _ _ _ _ _; refine call_eq rfl (by repeat' (first | trivial | refine And.intro ?_ ?_ | (show 0 + _ ≤ List.length _; simp))) ALeL.refl (awake_ok) rfl ?_) | (change vcFunD _ _ _ _ _; refine callD_eq rfl (by repeat' (first | trivial | refine And.intro ?_ ?_ | (show 0 + _ ≤ List.length _; simp))) ALeL.refl (awake_ok) rfl ?_) | fail)
    all_goals first
      | rfl
      | (exfalso; omega)
end Go.Proofs.YtpnghlibmpainaaGreat.Cw

/-
  What the laws of chapter 32 are handed.
-/
namespace Go.Proofs.YtpnghlibmpainaaGreat.Cw
open Go.Cw Go.Proofs
set_option linter.unusedVariables false
set_option maxRecDepth 100000

theorem in_int {qs : List PV} (h : PTy T 3 qs) : ∃ n : Int, qs = [ei n] ∧ -9223372036854775808 ≤ n ∧ n ≤ 9223372036854775807 := kd_int (by kernel_rfl) h
theorem in_int1 {qs : List PV} (h : PTy T 3 qs) : ∃ n : Int, qs = [ei n] := by
  obtain ⟨s, h, _⟩ := in_int h
  exact ⟨s, h⟩
theorem in_ints {qs : List PV} (h : PTy T 24 qs) : ∃ l : List Int, qs = [encInts l] := by
  obtain ⟨l, h, _⟩ := kd_slice (fun s => [ei s]) (fun _ => True) (e := 3) (z := 1) (by kernel_rfl) (fun r hr => by obtain ⟨s, h⟩ := in_int1 hr; exact ⟨s, h, trivial⟩) h
  exact ⟨l, h⟩
theorem args_ints {ts : List TypeId} {al : List AV} (h : ArgsOk T (24 :: ts) al) : ∃ (l : List Int) (al' : _), al = .pv (encInts l) :: al' ∧ ArgsOk T ts al' := by
  obtain ⟨q, al', rfl, h1, h2⟩ := args_one (by kernel_rfl) h
  obtain ⟨l, h⟩ := in_ints h1
  injection h with h; subst h
  exact ⟨l, al', rfl, h2⟩
end Go.Proofs.YtpnghlibmpainaaGreat.Cw
