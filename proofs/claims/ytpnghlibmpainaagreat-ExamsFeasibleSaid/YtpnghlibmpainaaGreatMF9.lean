/-
  Part 9 of the proof (AwakeB, X13, S1, G8, G9, G10, A1): what later parts use. No conditions.
-/
import Derived.Test.YtpnghlibmpainaaGreatMF8

/-
  The example with which each law of chapter 32 begins: it answers true. No conditions.
-/
namespace Go.Proofs.YtpnghlibmpainaaGreat.Cw
open Go.Cw Go.Proofs
theorem awake_ok : PCall Tryz.prog 9 [] (fun r => r = vbool true) := by
  have h : exFun T F 100000 20 9 [] [] = some (vbool true, []) := by kernel_rfl
  exact (exFun_ok tok fok mixed 100000 20 9 [] [] _ _ h).mono fun r H' e => ⟨e.2, e.1⟩
end Go.Proofs.YtpnghlibmpainaaGreat.Cw

/-
  The law on the model of examinations.
-/
namespace Go.Proofs.YtpnghlibmpainaaGreat.Cw
open Go.Cw Go.Proofs
set_option linter.unusedVariables false
set_option maxRecDepth 100000
set_option maxHeartbeats 8000000

theorem exam_z {x : Exams} (h : examsE x = 0) : ∀ e ∈ x.exams, e.feats.length ≤ 8 ∧ 1 ≤ e.studs.length ∧ e.studs.length ≤ 64 := by
  unfold examsE at h
  split at h
  · rename_i h1; exact absurd h h1
  split at h
  · cases h
  split at h
  · rename_i h1; exact absurd h h1
  rename_i h2
  have h2 : firstE (exE x.exams) x.exams.length = 0 := Classical.byContradiction fun h => h2 h
  intro e he
  obtain ⟨i, hi⟩ := List.getElem?_of_mem he
  have h3 := firstE_zero_iff.1 h2 i (List.getElem?_eq_some_iff.1 hi).1
  have h4 : examE e = 0 := by
    apply Classical.byContradiction
    intro hk
    rw [yE1 hi hk] at h3
    exact hk h3
  unfold examE at h4
  (repeat' split at h4) <;> first | (cases h4; done) | skip
  rename_i hs _
  have : e.studs.length ≠ 0 := fun k => hs (List.eq_nil_of_length_eq_zero k)
  exact ⟨by omega, by omega, by omega⟩
theorem cost_z {x : Exams} (h : examsE x = 0) : ∀ s ∈ x.sits, 0 ≤ s.cost ∧ s.cost ≤ 1000 := by
  have h := sits_ok h
  have hn := (sits_fine h).1
  unfold sitsE at h
  rw [if_neg (by omega)] at h
  intro s hs
  obtain ⟨i, hi⟩ := List.getElem?_of_mem hs
  have h3 := firstE_zero_iff.1 h i (List.getElem?_eq_some_iff.1 hi).1
  by_cases ht : timedP s
  · apply Classical.byContradiction
    intro hc
    rw [sE2 hi ht (by omega)] at h3
    cases h3
  · rw [sE1 hi ht] at h3
    cases h3
theorem room_zx {l : List Room} {g : Grid} {w : Int} (h : roomsE l g w = 0) : l.length ≤ 16 ∧ ∀ r ∈ l, r.feats.length ≤ 8 ∧ r.closed.length ≤ 24 ∧ 0 ≤ r.seats ∧ r.seats ≤ 1048576 := by
  unfold roomsE at h
  (repeat' split at h) <;> first | (exfalso; omega) | skip
  refine ⟨by omega, fun r hr => ?_⟩
  obtain ⟨i, hi⟩ := List.getElem?_of_mem hr
  have h3 := firstE_zero_iff.1 h i (List.getElem?_eq_some_iff.1 hi).1
  unfold roomE at h3
  rw [hi] at h3
  dsimp only at h3
  (repeat' split at h3) <;> first | (exfalso; omega) | skip
  all_goals exact ⟨by omega, by omega, by omega, by omega⟩
theorem lensX {x : Exams} (h : examsE x = 0) : LensX x := ⟨(room_zx (rooms_ok h)).1, (room_zx (rooms_ok h)).2, exam_z h, (sits_fine (sits_ok h)).1, cost_z h⟩
theorem c_build (x : Exams) (h6 : x.exams.length ≤ 6) : PCall Tryz.prog 20 [ag x.cells] (fun a => a = .tup [ag (buildM x).cells, vint .i64 (buildE x)]) := by
  by_cases h : examsE x = 0
  · exact (c_build0 x h (lensX h) h6).weak fun r h => ⟨_, h.le, rfl⟩
  · exact (c_build1 x h).weak fun r h => ⟨_, h.le, rfl⟩
theorem build_ok2 {x : Exams} (h6 : x.exams.length ≤ 6) (h : buildE x = 0) : BuildOk (clsX x) (setsX x) (entX x) (wtX x) (mostX x) x.rooms.length x.sits.length ∧ (prsU (setsX x) (entX x) 7).length ≤ 4000 := by
  obtain ⟨h0, h24⟩ := build_z h
  have hl := lensX h0
  have hSl : (setsX x).length = x.exams.length := List.length_map _
  refine ⟨⟨by omega, fun A hA => ?_, by unfold clsX setsX; rw [List.length_map, List.length_map], fun i l A h1 h2 => ?_, fun l hl2 o ho => ?_, fun u i k s t _ => entX_ok h0, fun i hi => ?_, fun k hk => ?_, ?_⟩, ?_⟩
  · obtain ⟨e, he, rfl⟩ := List.mem_map.1 (show A ∈ x.exams.map (seatsV x) from hA)
    exact h24 e he
  · unfold clsX at h1
    unfold setsX at h2
    rw [List.getElem?_map] at h1 h2
    obtain ⟨e, he, rfl⟩ := Option.map_eq_some_iff.1 h1
    obtain ⟨e', he', rfl⟩ := Option.map_eq_some_iff.1 h2
    rw [he] at he'; injection he' with he'; subst he'
    exact List.length_map _
  · obtain ⟨e, he, rfl⟩ := List.mem_map.1 (show l ∈ x.exams.map _ from hl2)
    obtain ⟨q, hq, rfl⟩ := List.mem_map.1 ho
    obtain ⟨t, ht⟩ := seats_sit hq
    unfold optS
    rw [ht]
    dsimp only
    have hc := hl.cost t (List.mem_of_getElem? ht)
    by_cases h : 0 < t.cost
    · rw [if_pos h]; exact .inr ⟨t.cost, rfl, by omega, by omega⟩
    · rw [if_neg h]; exact .inl rfl
  · obtain ⟨e, he⟩ := getE (show i < x.exams.length by omega)
    have := hl.exam e (List.mem_of_getElem? he)
    unfold wtX
    rw [he]
    dsimp only
    omega
  · obtain ⟨r, hr⟩ := getE hk
    have := hl.room r (List.mem_of_getElem? hr)
    unfold mostX
    rw [hr]
    exact this.2.2
  · have : x.sits.length * x.rooms.length ≤ 24 * 16 := Nat.mul_le_mul hl.sits hl.rooms
    omega
  · have h1 := prsU_len (S := setsX x) (E := entX x) (u := 7)
    have h2 : (setsX x).length * (setsX x).length ≤ 6 * 6 := Nat.mul_le_mul (by omega) (by omega)
    omega
theorem valid_build {x : Exams} (h6 : x.exams.length ≤ 6) (h : buildE x = 0) : modelE (buildM x) = 0 := by
  obtain ⟨h1, h2⟩ := build_ok2 h6 h
  unfold buildM
  rw [if_pos h]
  exact built_valid h1 h2
theorem build_laid {x : Exams} (h6 : x.exams.length ≤ 6) : Laid (buildM x) ∧ SameOk (buildM x) := by
  by_cases h : buildE x = 0
  · obtain ⟨h1, h2⟩ := build_ok2 h6 h
    unfold buildM
    rw [if_pos h]
    have g1 : (clsX x).length ≤ 24 := by rw [h1.same]; exact h1.cls
    have g2 : ∀ l ∈ clsX x, l.length ≤ 24 := fun l hl => by
      obtain ⟨i, hi⟩ := List.getElem?_of_mem hl
      have hlt := (List.getElem?_eq_some_iff.1 hi).1
      obtain ⟨A, hA⟩ := getE (show i < (setsX x).length by rw [← h1.same]; exact hlt)
      rw [h1.lens i l A hi hA]
      exact h1.opt A (List.mem_of_getElem? hA)
    have g3 : ∀ l ∈ clsX x, ∀ o ∈ l, o.charges.length ≤ 1 := fun l hl o ho => by
      rcases h1.chg l hl o ho with e | ⟨c, e, -⟩ <;> rw [e] <;> simp
    have g4 : ∀ p ∈ prsU (setsX x) (entX x) 7, p.table.length ≤ 576 := fun p hp => by
      obtain ⟨v, i, k, A, B, -, -, hA, hB, rfl⟩ := prs_mem hp
      show (tabS _ _ _ _ A B).length ≤ 576
      rw [tabS_len]
      have := Nat.mul_le_mul (h1.opt A (List.mem_of_getElem? hA)) (h1.opt B (List.mem_of_getElem? hB))
      omega
    have g5 : (cntS (setsX x) (wtX x) (mostX x) x.rooms.length x.sits.length).length ≤ 800 := Nat.le_trans cntS_len h1.cnt
    have g6 : ∀ c ∈ cntS (setsX x) (wtX x) (mostX x) x.rooms.length x.sits.length, c.loads.length ≤ 24 := fun c hc => by
      obtain ⟨a, -, hc⟩ := gr_mem.1 hc
      obtain ⟨r, -, hc⟩ := fm_mem.1 hc
      unfold countS at hc
      split at hc
      · injection hc with hc
        subst hc
        exact Nat.le_trans upto_len h1.cls
      · cases hc
    exact ⟨⟨by dsimp only; omega, by dsimp only; omega, fun l hl o ho => by have := g3 l hl o ho; omega, fun c hc => by have := g6 c hc; omega⟩, ⟨by dsimp only; omega, fun l hl => by have := g2 l hl; omega, fun l hl o ho => by have := g3 l hl o ho; omega, by dsimp only; omega, fun p hp => by have := g4 p hp; omega, by dsimp only; omega, fun c hc => by have := g6 c hc; omega⟩⟩
  · unfold buildM
    rw [if_neg h]
    exact ⟨⟨Nat.zero_le _, Nat.zero_le _, fun l hl => (by cases hl), fun c hc => (by cases hc)⟩, ⟨Nat.zero_le _, fun l hl => (by cases hl), fun l hl => (by cases hl), Nat.zero_le _, fun p hp => (by cases hp), Nat.zero_le _, fun c hc => (by cases hc)⟩⟩
end Go.Proofs.YtpnghlibmpainaaGreat.Cw

/-
  Contracts: where a place is.
-/
namespace Go.Proofs.YtpnghlibmpainaaGreat.Cw
open Go Go.Cw Go.Proofs
set_option linter.unusedVariables false
set_option maxRecDepth 100000
set_option maxHeartbeats 4000000

/-- The first sitting at a time. -/
noncomputable def sitW (x : Exams) (t : Time) : Int := idxB (fun s => pB (timeOf s = t)) x.sits
def whereP (x : Exams) (p : Placed) : Prop := examsE x = 0 ∧ 0 ≤ sitW x p.time ∧ 0 ≤ p.room ∧ p.room < x.rooms.length
noncomputable def whereA (x : Exams) (p : Placed) : AV := .tup [vint .i64 (if pB (whereP x p) then sitW x p.time else 0), vint .i64 (if pB (whereP x p) then p.room else 0), vbool (pB (whereP x p))]
theorem whereA_t {x : Exams} {p : Placed} (h : whereP x p) : whereA x p = .tup [vint .i64 (sitW x p.time), vint .i64 p.room, vbool true] := by unfold whereA; rw [pB_t h]; rfl
theorem whereA_f {x : Exams} {p : Placed} (h : ¬ whereP x p) : whereA x p = .tup [vint .i64 0, vint .i64 0, vbool false] := by unfold whereA; rw [pB_f h]; rfl
theorem time_beq {a b : Time} : (a.weeks == b.weeks && (a.day == b.day && (a.start == b.start && (a.len == b.len && true)))) = pB (a = b) := by
  obtain ⟨a1, a2, a3, a4⟩ := a
  obtain ⟨b1, b2, b3, b4⟩ := b
  refine pB_eq ?_
  simp
theorem c_index_sit (l : List Sitting) (f : FuncId) (caps : List PV) (p : Sitting → Bool) (hl : l.length ≤ 100000) (hf : ∀ x ∈ l, PCall Tryz.prog f (ag (Sitting.row x) :: pvs caps) (fun r => r = vbool (p x))) :
    PCall Tryz.prog 106 [.pv (.sl 4 (l.map Sitting.row)), .pv (.fn f caps)] (fun r => r = vint .i64 (idxB p l)) := by
  refine acall_of tok mixed 19 rfl (fn := Tryz.f106) (c := Tryz.f106.body.getD .skip) (by kernel_rfl) (by kernel_rfl) (by kernel_rfl) rfl 0 rfl ?_
  repeat' (first | refine o1 ?_ | refine o2 ?_ | refine k1 ?_ | refine k2 ?_ | refine k3 ?_ | refine k4 ?_ | refine k6 ?_ | refine k7 ?_ | refine k8 ?_ | refine And.intro ?_ ?_ | exact trivial | refine o3 ?_ | refine o4 ?_ | refine o5 ?_ | refine o6 ?_ | refine k5 ?_ | (intro h; first | exact Bool.noConfusion h | exact nz _ h | exact nl h | (simp at h; done) | (simp at h; first | (exfalso; omega) | skip) | skip) | (change retOk _ _ _ _; refine ret_pure rfl trivial ?_) | exact (rfl : allOne _ = true) | (refine (?_ : (0 : Int) ≤ _); omega) | (refine (?_ : _ ≠ _); omega) | (refine (?_ : srcLen _ = rowsLen _); rfl) | exact Nat.le_of_ble_eq_true rfl | exact (by kernel_rfl : drawOk _ _ = true) | refine eqv_len_map ?_ | refine eqv_size ?_ | refine eqv_put (eqv_ck ?_) | refine eqv_zero ?_ | refine eqv_wrap (by omega) (by omega) ?_ | refine eqv_u64 (by omega) (by omega) ?_ | refine eqv_u8 (by omega) (by omega) ?_ | refine eqv_to _ (set_map rfl rfl) ?_ | refine ⟨_, _, (by first | rfl | assumption), at_map (by assumption), ?_⟩ | refine ⟨_, _, (by first | rfl | assumption), (by assumption), ?_⟩ | refine ⟨_, at_map (by assumption), (by decide), ?_⟩ | refine ⟨_, at_map (by assumption), ?_⟩ | (refine (?_ : _ ≤ 140737488355328); simp [rowsLen] <;> omega) | (refine (?_ : _ ≤ 9223372036854775807); simp [rowsLen] <;> omega) | (refine (?_ : _ = rowsLen _); simp [rowsLen] <;> omega) | refine eqv_to _ (app_row rfl) (eqv_to _ app_len ?_) | refine eqv_to _ (app_first rfl) (eqv_to 1 rfl ?_) | refine idx_sl (at_map (by assumption)) (by omega) ?_ | refine idx_ms _ (by first | rfl | assumption) (by first | assumption | omega) ?_ | fail)
  refine loop_at (fun i : Nat => [(8, vint .i64 i)]) (fun _ => []) (fun i => i ≤ l.length ∧ ∀ j, j < i → ∀ y, l[j]? = some y → p y = false) (fun i => l.length - i) 0 ⟨by omega, fun j hj => by omega⟩ (by repeat' (first | exact trivial | exact rfl | exact ⟨_, rfl, ALe.refl⟩ | refine And.intro ?_ ?_)) (by repeat' (first | exact trivial | exact rfl | exact ⟨_, rfl, ALe.refl⟩ | refine And.intro ?_ ?_)) ?_
  intro i ⟨hi, hall⟩
  rcases Nat.lt_or_ge i l.length with hlt | hge
  · obtain ⟨x, hx⟩ := getE hlt
    have hm := List.mem_of_getElem? hx
    repeat' (first | refine o1 ?_ | refine o2 ?_ | refine k1 ?_ | refine k2 ?_ | refine k3 ?_ | refine k4 ?_ | refine k6 ?_ | refine k7 ?_ | refine k8 ?_ | refine And.intro ?_ ?_ | exact trivial | refine o3 ?_ | refine o4 ?_ | refine o5 ?_ | refine o6 ?_ | refine k5 ?_ | (intro h; first | exact Bool.noConfusion h | exact nz _ h | exact nl h | (simp at h; done) | (simp at h; first | (exfalso; omega) | skip) | skip) | (change retOk _ _ _ _; refine ret_pure rfl trivial ?_) | exact (rfl : allOne _ = true) | (refine (?_ : (0 : Int) ≤ _); omega) | (refine (?_ : _ ≠ _); omega) | (refine (?_ : srcLen _ = rowsLen _); rfl) | exact Nat.le_of_ble_eq_true rfl | exact (by kernel_rfl : drawOk _ _ = true) | refine eqv_len_map ?_ | refine eqv_size ?_ | refine eqv_put (eqv_ck ?_) | refine eqv_zero ?_ | refine eqv_wrap (by omega) (by omega) ?_ | refine eqv_u64 (by omega) (by omega) ?_ | refine eqv_u8 (by omega) (by omega) ?_ | refine eqv_to _ (set_map rfl rfl) ?_ | refine ⟨_, _, (by first | rfl | assumption), at_map (by assumption), ?_⟩ | refine ⟨_, _, (by first | rfl | assumption), (by assumption), ?_⟩ | refine ⟨_, at_map (by assumption), (by decide), ?_⟩ | refine ⟨_, at_map (by assumption), ?_⟩ | (refine (?_ : _ ≤ 140737488355328); simp [rowsLen] <;> omega) | (refine (?_ : _ ≤ 9223372036854775807); simp [rowsLen] <;> omega) | (refine (?_ : _ = rowsLen _); simp [rowsLen] <;> omega) | refine eqv_to _ (app_row rfl) (eqv_to _ app_len ?_) | refine eqv_to _ (app_first rfl) (eqv_to 1 rfl ?_) | refine idx_sl (at_map (by assumption)) (by omega) ?_ | refine idx_ms _ (by first | rfl | assumption) (by first | assumption | omega) ?_ | (change vcFun _ _ (_ ++ pvs _) _ _; refine call_cap rfl (by repeat' (first | trivial | refine And.intro ?_ ?_ | (show 0 + _ ≤ List.length _; simp))) (hf x hm) rfl ?_) | fail)
    all_goals first
      | exact ⟨i + 1, ⟨by omega, all_lt_succ hall fun y hy => by rw [hx] at hy; cases hy; assumption⟩, by omega, back [] rfl rfl trivial (by repeat' (first | exact trivial | exact rfl | exact ⟨_, rfl, ALe.refl⟩ | refine And.intro ?_ ?_))⟩
      | exact congrArg (vint .i64) (idxB_at hall hx (by assumption)).symm
  · repeat' (first | refine o1 ?_ | refine o2 ?_ | refine k1 ?_ | refine k2 ?_ | refine k3 ?_ | refine k4 ?_ | refine k6 ?_ | refine k7 ?_ | refine k8 ?_ | refine And.intro ?_ ?_ | exact trivial | refine o3 ?_ | refine o4 ?_ | refine o5 ?_ | refine o6 ?_ | refine k5 ?_ | (intro h; first | exact Bool.noConfusion h | exact nz _ h | exact nl h | (simp at h; done) | (simp at h; first | (exfalso; omega) | skip) | skip) | (change retOk _ _ _ _; refine ret_pure rfl trivial ?_) | exact (rfl : allOne _ = true) | (refine (?_ : (0 : Int) ≤ _); omega) | (refine (?_ : _ ≠ _); omega) | (refine (?_ : srcLen _ = rowsLen _); rfl) | exact Nat.le_of_ble_eq_true rfl | exact (by kernel_rfl : drawOk _ _ = true) | refine eqv_len_map ?_ | refine eqv_size ?_ | refine eqv_put (eqv_ck ?_) | refine eqv_zero ?_ | refine eqv_wrap (by omega) (by omega) ?_ | refine eqv_u64 (by omega) (by omega) ?_ | refine eqv_u8 (by omega) (by omega) ?_ | refine eqv_to _ (set_map rfl rfl) ?_ | refine ⟨_, _, (by first | rfl | assumption), at_map (by assumption), ?_⟩ | refine ⟨_, _, (by first | rfl | assumption), (by assumption), ?_⟩ | refine ⟨_, at_map (by assumption), (by decide), ?_⟩ | refine ⟨_, at_map (by assumption), ?_⟩ | (refine (?_ : _ ≤ 140737488355328); simp [rowsLen] <;> omega) | (refine (?_ : _ ≤ 9223372036854775807); simp [rowsLen] <;> omega) | (refine (?_ : _ = rowsLen _); simp [rowsLen] <;> omega) | refine eqv_to _ (app_row rfl) (eqv_to _ app_len ?_) | refine eqv_to _ (app_first rfl) (eqv_to 1 rfl ?_) | refine idx_sl (at_map (by assumption)) (by omega) ?_ | refine idx_ms _ (by first | rfl | assumption) (by first | assumption | omega) ?_ | fail)
    exact congrArg (vint .i64) (idxB_none fun j hj => hall j (by omega)).symm
theorem c_where1 (s : Sitting) (p : Placed) : PCall Tryz.prog 107 [ag s.row, .pv (.ia p.row)] (fun r => r = vbool (pB (timeOf s = p.time))) := by
  refine acall_of tok mixed 9 rfl (fn := Tryz.f107) (c := Tryz.f107.body.getD .skip) (by kernel_rfl) (by kernel_rfl) (by kernel_rfl) rfl 0 rfl ?_
  repeat' (first | refine o1 ?_ | refine o2 ?_ | refine k1 ?_ | refine k2 ?_ | refine k3 ?_ | refine k4 ?_ | refine k6 ?_ | refine k7 ?_ | refine k8 ?_ | refine And.intro ?_ ?_ | exact trivial | refine o3 ?_ | refine o4 ?_ | refine o5 ?_ | refine o6 ?_ | refine k5 ?_ | (intro h; first | exact Bool.noConfusion h | exact nz _ h | exact nl h | (simp at h; done) | (simp at h; first | (exfalso; omega) | skip) | skip) | (change retOk _ _ _ _; refine ret_pure rfl trivial ?_) | exact (rfl : allOne _ = true) | (refine (?_ : (0 : Int) ≤ _); omega) | (refine (?_ : _ ≠ _); omega) | (refine (?_ : srcLen _ = rowsLen _); rfl) | exact Nat.le_of_ble_eq_true rfl | exact (by kernel_rfl : drawOk _ _ = true) | refine eqv_len_map ?_ | refine eqv_size ?_ | refine eqv_put (eqv_ck ?_) | refine eqv_zero ?_ | refine eqv_wrap (by omega) (by omega) ?_ | refine eqv_u64 (by omega) (by omega) ?_ | refine eqv_u8 (by omega) (by omega) ?_ | refine eqv_to _ (set_map rfl rfl) ?_ | refine ⟨_, _, (by first | rfl | assumption), at_map (by assumption), ?_⟩ | refine ⟨_, _, (by first | rfl | assumption), (by assumption), ?_⟩ | refine ⟨_, at_map (by assumption), (by decide), ?_⟩ | refine ⟨_, at_map (by assumption), ?_⟩ | (refine (?_ : _ ≤ 140737488355328); simp [rowsLen] <;> omega) | (refine (?_ : _ ≤ 9223372036854775807); simp [rowsLen] <;> omega) | (refine (?_ : _ = rowsLen _); simp [rowsLen] <;> omega) | refine eqv_to _ (app_row rfl) (eqv_to _ app_len ?_) | refine eqv_to _ (app_first rfl) (eqv_to 1 rfl ?_) | refine idx_sl (at_map (by assumption)) (by omega) ?_ | refine idx_ms _ (by first | rfl | assumption) (by first | assumption | omega) ?_ | (change vcFunD _ _ _ _ _; refine callD_eq rfl (by repeat' (first | trivial | refine And.intro ?_ ?_ | (show 0 + _ ≤ List.length _; simp))) ALeL.refl (c_time s) rfl ?_) | fail)
  exact congrArg vbool time_beq
theorem c_where (x : Exams) (p : Placed) (h : examsE x = 0) : PCall Tryz.prog 64 [ag x.cells, ag p.row] (fun r => r = whereA x p) := by
  have hn := (fine_of h).sn
  have h1 := c_index_sit x.sits 107 [.ia p.row] (fun s => pB (timeOf s = p.time)) (by omega) (fun s _ => c_where1 s p)
  have hP : whereP x p ↔ 0 ≤ sitW x p.time ∧ 0 ≤ p.room ∧ p.room < x.rooms.length := ⟨fun k => k.2, fun k => ⟨h, k⟩⟩
  change PCall _ _ _ (fun r => r = vint .i64 (sitW x p.time)) at h1
  refine acall_of tok mixed 30 rfl (fn := Tryz.f64) (c := Tryz.f64.body.getD .skip) (by kernel_rfl) (by kernel_rfl) (by kernel_rfl) rfl 0 rfl ?_
  repeat' (first | refine o1 ?_ | refine o2 ?_ | refine k1 ?_ | refine k2 ?_ | refine k3 ?_ | refine k4 ?_ | refine k6 ?_ | refine k7 ?_ | refine k8 ?_ | refine And.intro ?_ ?_ | exact trivial | refine o3 ?_ | refine o4 ?_ | refine o5 ?_ | refine o6 ?_ | refine k5 ?_ | (intro h; first | exact Bool.noConfusion h | exact nz _ h | exact nl h | (simp at h; done) | (simp at h; first | (exfalso; omega) | skip) | skip) | (change retOk _ _ _ _; refine ret_pure rfl trivial ?_) | exact (rfl : allOne _ = true) | (refine (?_ : (0 : Int) ≤ _); omega) | (refine (?_ : _ ≠ _); omega) | (refine (?_ : srcLen _ = rowsLen _); rfl) | exact Nat.le_of_ble_eq_true rfl | exact (by kernel_rfl : drawOk _ _ = true) | refine eqv_len_map ?_ | refine eqv_size ?_ | refine eqv_put (eqv_ck ?_) | refine eqv_zero ?_ | refine eqv_wrap (by omega) (by omega) ?_ | refine eqv_u64 (by omega) (by omega) ?_ | refine eqv_u8 (by omega) (by omega) ?_ | refine eqv_to _ (set_map rfl rfl) ?_ | refine ⟨_, _, (by first | rfl | assumption), at_map (by assumption), ?_⟩ | refine ⟨_, _, (by first | rfl | assumption), (by assumption), ?_⟩ | refine ⟨_, at_map (by assumption), (by decide), ?_⟩ | refine ⟨_, at_map (by assumption), ?_⟩ | (refine (?_ : _ ≤ 140737488355328); simp [rowsLen] <;> omega) | (refine (?_ : _ ≤ 9223372036854775807); simp [rowsLen] <;> omega) | (refine (?_ : _ = rowsLen _); simp [rowsLen] <;> omega) | refine eqv_to _ (app_row rfl) (eqv_to _ app_len ?_) | refine eqv_to _ (app_first rfl) (eqv_to 1 rfl ?_) | refine idx_sl (at_map (by assumption)) (by omega) ?_ | refine idx_ms _ (by first | rfl | assumption) (by first | assumption | omega) ?_ | (change vcFun _ _ _ _ _; refine call_eq rfl (by repeat' (first | trivial | refine And.intro ?_ ?_ | (show 0 + _ ≤ List.length _; simp))) ALeL.refl (h1) rfl ?_) | fail)
  all_goals first
    | exact (whereA_f fun k => by have := hP.1 k; omega).symm
    | exact (whereA_t (hP.2 ⟨by omega, by omega, by omega⟩)).symm
theorem c_Where (x : Exams) (p : Placed) : PCall Tryz.prog 27 [ag x.cells, ag p.row] (fun r => r = whereA x p) := by
  by_cases h : examsE x = 0
  · have h1 := c_exams x
    have h2 := c_where x p h
    rw [h] at h1
    unfold whereA at *
    refine acall_of tok mixed 16 rfl (fn := Tryz.f27) (c := Tryz.f27.body.getD .skip) (by kernel_rfl) (by kernel_rfl) (by kernel_rfl) rfl 0 rfl ?_
    repeat' (first | refine o1 ?_ | refine o2 ?_ | refine k1 ?_ | refine k2 ?_ | refine k3 ?_ | refine k4 ?_ | refine k6 ?_ | refine k7 ?_ | refine k8 ?_ | refine And.intro ?_ ?_ | exact trivial | refine o3 ?_ | refine o4 ?_ | refine o5 ?_ | refine o6 ?_ | refine k5 ?_ | (intro h; first | exact Bool.noConfusion h | exact nz _ h | exact nl h | (simp at h; done) | (simp at h; first | (exfalso; omega) | skip) | skip) | (change retOk _ _ _ _; refine ret_pure rfl trivial ?_) | exact (rfl : allOne _ = true) | (refine (?_ : (0 : Int) ≤ _); omega) | (refine (?_ : _ ≠ _); omega) | (refine (?_ : srcLen _ = rowsLen _); rfl) | exact Nat.le_of_ble_eq_true rfl | exact (by kernel_rfl : drawOk _ _ = true) | refine eqv_len_map ?_ | refine eqv_size ?_ | refine eqv_put (eqv_ck ?_) | refine eqv_zero ?_ | refine eqv_wrap (by omega) (by omega) ?_ | refine eqv_u64 (by omega) (by omega) ?_ | refine eqv_u8 (by omega) (by omega) ?_ | refine eqv_to _ (set_map rfl rfl) ?_ | refine ⟨_, _, (by first | rfl | assumption), at_map (by assumption), ?_⟩ | refine ⟨_, _, (by first | rfl | assumption), (by assumption), ?_⟩ | refine ⟨_, at_map (by assumption), (by decide), ?_⟩ | refine ⟨_, at_map (by assumption), ?_⟩ | (refine (?_ : _ ≤ 140737488355328); simp [rowsLen] <;> omega) | (refine (?_ : _ ≤ 9223372036854775807); simp [rowsLen] <;> omega) | (refine (?_ : _ = rowsLen _); simp [rowsLen] <;> omega) | refine eqv_to _ (app_row rfl) (eqv_to _ app_len ?_) | refine eqv_to _ (app_first rfl) (eqv_to 1 rfl ?_) | refine idx_sl (at_map (by assumption)) (by omega) ?_ | refine idx_ms _ (by first | rfl | assumption) (by first | assumption | omega) ?_ | (change vcFun _ _ _ _ _; refine call_eq rfl (by repeat' (first | trivial | refine And.intro ?_ ?_ | (show 0 + _ ≤ List.length _; simp))) ALeL.refl (h1) rfl ?_) | (change vcFun _ _ _ _ _; refine call_eq rfl (by repeat' (first | trivial | refine And.intro ?_ ?_ | (show 0 + _ ≤ List.length _; simp))) ALeL.refl (h2) rfl ?_) | fail)
    all_goals first
      | rfl
  · have h1 := c_exams x
    rw [whereA_f fun k => h k.1]
    generalize examsE x = E at *
    refine acall_of tok mixed 16 rfl (fn := Tryz.f27) (c := Tryz.f27.body.getD .skip) (by kernel_rfl) (by kernel_rfl) (by kernel_rfl) rfl 0 rfl ?_
    repeat' (first | refine o1 ?_ | refine o2 ?_ | refine k1 ?_ | refine k2 ?_ | refine k3 ?_ | refine k4 ?_ | refine k6 ?_ | refine k7 ?_ | refine k8 ?_ | refine And.intro ?_ ?_ | exact trivial | refine o3 ?_ | refine o4 ?_ | refine o5 ?_ | refine o6 ?_ | refine k5 ?_ | (intro h; first | exact Bool.noConfusion h | exact nz _ h | exact nl h | (simp at h; done) | (simp at h; first | (exfalso; omega) | skip) | skip) | (change retOk _ _ _ _; refine ret_pure rfl trivial ?_) | exact (rfl : allOne _ = true) | (refine (?_ : (0 : Int) ≤ _); omega) | (refine (?_ : _ ≠ _); omega) | (refine (?_ : srcLen _ = rowsLen _); rfl) | exact Nat.le_of_ble_eq_true rfl | exact (by kernel_rfl : drawOk _ _ = true) | refine eqv_len_map ?_ | refine eqv_size ?_ | refine eqv_put (eqv_ck ?_) | refine eqv_zero ?_ | refine eqv_wrap (by omega) (by omega) ?_ | refine eqv_u64 (by omega) (by omega) ?_ | refine eqv_u8 (by omega) (by omega) ?_ | refine eqv_to _ (set_map rfl rfl) ?_ | refine ⟨_, _, (by first | rfl | assumption), at_map (by assumption), ?_⟩ | refine ⟨_, _, (by first | rfl | assumption), (by assumption), ?_⟩ | refine ⟨_, at_map (by assumption), (by decide), ?_⟩ | refine ⟨_, at_map (by assumption), ?_⟩ | (refine (?_ : _ ≤ 140737488355328); simp [rowsLen] <;> omega) | (refine (?_ : _ ≤ 9223372036854775807); simp [rowsLen] <;> omega) | (refine (?_ : _ = rowsLen _); simp [rowsLen] <;> omega) | refine eqv_to _ (app_row rfl) (eqv_to _ app_len ?_) | refine eqv_to _ (app_first rfl) (eqv_to 1 rfl ?_) | refine idx_sl (at_map (by assumption)) (by omega) ?_ | refine idx_ms _ (by first | rfl | assumption) (by first | assumption | omega) ?_ | (change vcFun _ _ _ _ _; refine call_eq rfl (by repeat' (first | trivial | refine And.intro ?_ ?_ | (show 0 + _ ≤ List.length _; simp))) ALeL.refl (h1) rfl ?_) | fail)
    all_goals first
      | (exfalso; omega)
      | rfl
end Go.Proofs.YtpnghlibmpainaaGreat.Cw

/-
  Plain: what a plan of examinations says that costs less than what is forbidden.
-/
namespace Go.Proofs.YtpnghlibmpainaaGreat.Cw
open Go Go.Cw Go.Proofs
set_option linter.unusedVariables false
set_option maxRecDepth 100000

/-- An exam's seat in a plan. -/
noncomputable def spotV (x : Exams) (pl : List Int) (k : Nat) : Option Seat := match x.exams[k]?, pl[k]? with
  | some e, some o => if o < 0 then none else (seatsV x e)[o.toNat]?
  | _, _ => none
noncomputable def mdl (x : Exams) : Model := ⟨clsX x, prsU (setsX x) (entX x) 7, cntS (setsX x) (wtX x) (mostX x) x.rooms.length x.sits.length, 7⟩
theorem build_mdl {x : Exams} (h : buildE x = 0) : buildM x = mdl x := by unfold buildM; rw [if_pos h]; rfl
theorem spot_at {x : Exams} {pl : List Int} {k : Nat} {e : Exam} {o : Nat} (he : x.exams[k]? = some e) (ho : pl[k]? = some (o : Int)) : spotV x pl k = (seatsV x e)[o]? := by
  unfold spotV; rw [he, ho]; dsimp only; rw [if_neg (by omega), Int.toNat_natCast]
theorem cls_at {x : Exams} {k : Nat} {e : Exam} (he : x.exams[k]? = some e) : (clsX x)[k]? = some ((seatsV x e).map (optS x)) := by unfold clsX; rw [List.getElem?_map, he]; rfl
theorem sets_at {x : Exams} {k : Nat} {e : Exam} (he : x.exams[k]? = some e) : (setsX x)[k]? = some (seatsV x e) := by unfold setsX; rw [List.getElem?_map, he]; rfl
theorem spot_ex {x : Exams} {pl : List Int} {k : Nat} {e : Exam} (hp : planP (mdl x) pl) (he : x.exams[k]? = some e) : ∃ (o : Nat) (q : Seat), pl[k]? = some (o : Int) ∧ (seatsV x e)[o]? = some q ∧ spotV x pl k = some q := by
  have hk := (List.getElem?_eq_some_iff.1 he).1
  have hlen : pl.length = x.exams.length := by rw [hp.1]; exact List.length_map _
  obtain ⟨o, ho⟩ := getE (show k < pl.length by omega)
  obtain ⟨-, h2, l, h3, h4⟩ := hp.2 k (by omega) o ho
  obtain ⟨n, rfl⟩ := Int.eq_ofNat_of_zero_le h2
  rw [Int.toNat_natCast] at h3
  have h5 : (mdl x).classes[k]? = some ((seatsV x e).map (optS x)) := cls_at he
  rw [h5] at h3
  injection h3 with h3
  subst h3
  rw [List.length_map] at h4
  obtain ⟨q, hq⟩ := getE (show n < (seatsV x e).length by omega)
  exact ⟨n, q, ho, hq, by rw [spot_at he ho, hq]⟩
/-- What a seat of an exam is. -/
theorem seat_in {x : Exams} {e : Exam} {q : Seat} (h : q ∈ seatsV x e) : ∃ s r, x.sits[q.sit]? = some s ∧ x.rooms[q.room]? = some r ∧ suitP e r s := by
  obtain ⟨i, hi, h⟩ := gr_mem.1 h
  unfold seatsI at h
  split at h
  · rename_i s hs
    obtain ⟨k, r, hk, hr, hf⟩ := upto_mem.1 h
    unfold seatF at hf
    split at hf
    · rename_i hsu
      injection hf with hf
      subst hf
      exact ⟨s, r, hs, hr, by simpa using hsu⟩
    · cases hf
  · cases h
theorem seat_uniq {x : Exams} {e : Exam} {i j : Nat} {q p : Seat} (hi : (seatsV x e)[i]? = some q) (hj : (seatsV x e)[j]? = some p) (h1 : q.sit = p.sit) (h2 : q.room = p.room) : i = j := by
  obtain ⟨a1, a2⟩ := List.getElem?_eq_some_iff.1 hi
  obtain ⟨b1, b2⟩ := List.getElem?_eq_some_iff.1 hj
  apply Classical.byContradiction
  intro hne
  rcases Nat.lt_or_ge i j with h | h
  · have := List.pairwise_iff_getElem.1 seats_pw i j a1 b1 h
    rw [a2, b2] at this; exact this ⟨h1, h2⟩
  · have := List.pairwise_iff_getElem.1 seats_pw j i b1 a1 (by omega)
    rw [a2, b2] at this; exact this ⟨h1.symm, h2.symm⟩
/-- A table's entry. -/
theorem gr_get {α : Type} {F : Nat → List α} {m : Nat} : ∀ {n : Nat}, (∀ i, i < n → (F i).length = m) → ∀ {a b : Nat}, a < n → b < m → (gr F n)[a * m + b]? = (F a)[b]?
  | 0, _, _, _, h, _ => absurd h (Nat.not_lt_zero _)
  | n + 1, hF, a, b, ha, hb => by
    have hl : (gr F n).length = n * m := by
      clear ha
      have : ∀ k, k ≤ n → (gr F k).length = k * m := fun k => by
        induction k with
        | zero => intro _; simp [gr]
        | succ k ih => intro hk; rw [gr_succ, List.length_append, ih (by omega), hF k (by omega), Nat.succ_mul]
      exact this n (Nat.le_refl _)
    rw [gr_succ]
    rcases Nat.lt_or_ge a n with h | h
    · have h1 : (a + 1) * m ≤ n * m := Nat.mul_le_mul h (Nat.le_refl _)
      rw [Nat.succ_mul] at h1
      rw [List.getElem?_append_left (by omega), gr_get (fun i hi => hF i (by omega)) h hb]
    · obtain rfl : a = n := by omega
      rw [List.getElem?_append_right (by omega), hl, show a * m + b - a * m = b by omega]
theorem tab_at {E : Ent} {u i k a b : Nat} {A B : List Seat} {s t : Seat} (ha : A[a]? = some s) (hb : B[b]? = some t) : (tabS E u i k A B)[a * B.length + b]? = some (E u i k s t) := by
  unfold tabS
  have ha1 := (List.getElem?_eq_some_iff.1 ha).1
  have hb1 := (List.getElem?_eq_some_iff.1 hb).1
  rw [gr_get (m := B.length) (fun i hi => by
    obtain ⟨s, hs⟩ : ∃ s, A[i]? = some s := ⟨_, List.getElem?_eq_getElem hi⟩
    rw [rowS_at hs, List.length_map]) ha1 hb1, rowS_get ha hb]
section
variable {x : Exams} {pl : List Int} (hp : planP (mdl x) pl) (hT : ∀ t ∈ termsV (mdl x) pl, t.2 < 1099511627776)
include hp hT
/-- No entry of two exams is forbidden. -/
theorem ent_lt {i k u : Nat} {e f : Exam} {q p : Seat} (hik : i < k) (hu : u < 7) (he : x.exams[i]? = some e) (hf : x.exams[k]? = some f) (hq : spotV x pl i = some q) (hr : spotV x pl k = some p) : entX x u i k q p ≠ 1099511627776 := by
  intro hE
  obtain ⟨a, q', ha, ha2, ha3⟩ := spot_ex hp he
  rw [hq] at ha3; injection ha3 with ha3; subst ha3
  obtain ⟨b, p', hb, hb2, hb3⟩ := spot_ex hp hf
  rw [hr] at hb3; injection hb3 with hb3; subst hb3
  have ht := tab_at (E := entX x) (u := u) (i := i) (k := k) ha2 hb2
  rw [hE] at ht
  have hk := (List.getElem?_eq_some_iff.1 hf).1
  have hps : pairS (setsX x) (entX x) u i k = some ⟨i, k, u, tabS (entX x) u i k (seatsV x e) (seatsV x f)⟩ := by
    unfold pairS
    rw [sets_at he, sets_at hf]
    dsimp only
    rw [if_pos ⟨hik, List.any_eq_true.2 ⟨_, List.mem_of_getElem? ht, by decide⟩⟩]
  have hSl : (setsX x).length = x.exams.length := List.length_map _
  have hmem : (⟨i, k, u, tabS (entX x) u i k (seatsV x e) (seatsV x f)⟩ : Pair) ∈ (mdl x).pairs :=
    gr_mem.2 ⟨u, hu, gr_mem.2 ⟨i, by omega, fm_mem.2 ⟨k, by omega, hps⟩⟩⟩
  obtain ⟨j, hj⟩ := List.getElem?_of_mem hmem
  have hcl : (mdl x).classes[((k : Nat) : Int).toNat]? = some ((seatsV x f).map (optS x)) := by rw [Int.toNat_natCast]; exact cls_at hf
  have h1 : pairT (mdl x) pl ⟨i, k, u, tabS (entX x) u i k (seatsV x e) (seatsV x f)⟩ = some (((u : Nat) : Int), entV (mdl x) ⟨i, k, u, tabS (entX x) u i k (seatsV x e) (seatsV x f)⟩ a b) :=
    by unfold pairT; dsimp only; rw [Int.toNat_natCast, Int.toNat_natCast, ha, hb]; dsimp only; rw [if_pos ⟨Int.natCast_nonneg _, Int.natCast_nonneg _⟩]
  have h2 : entV (mdl x) ⟨i, k, u, tabS (entX x) u i k (seatsV x e) (seatsV x f)⟩ a b = 1099511627776 := by
    unfold entV; dsimp only; rw [hcl]; dsimp only
    rw [List.length_map, show ((a : Int) * (seatsV x f).length + b).toNat = a * (seatsV x f).length + b from by rw [← Int.natCast_mul, ← Int.natCast_add, Int.toNat_natCast], ht]; rfl
  rw [h2] at h1
  have := hT _ (List.mem_append_left _ (List.mem_append_right _ (upto_mem.2 ⟨j, _, (List.getElem?_eq_some_iff.1 hj).1, hj, h1⟩)))
  exact Int.lt_irrefl _ this
end
end Go.Proofs.YtpnghlibmpainaaGreat.Cw

/-
  Plain: the places of a plan of examinations; a plan that is not forbidden is feasible.
-/
namespace Go.Proofs.YtpnghlibmpainaaGreat.Cw
open Go Go.Cw Go.Proofs
set_option linter.unusedVariables false
set_option maxRecDepth 100000

theorem pow2_inj {a b : Nat} (h : (2 : Int) ^ a = 2 ^ b) : a = b := by
  have h : (2 : Nat) ^ a = 2 ^ b := by
    have e1 : ((2 ^ a : Nat) : Int) = (2 : Int) ^ a := by simp
    have e2 : ((2 ^ b : Nat) : Int) = (2 : Int) ^ b := by simp
    omega
  rcases Nat.lt_trichotomy a b with g | g | g
  · have := Nat.pow_lt_pow_right (a := 2) (by omega) g; omega
  · exact g
  · have := Nat.pow_lt_pow_right (a := 2) (by omega) g; omega
theorem time_inj {s t : Sitting} (hs : timedP s) (ht : timedP t) (h : timeOf s = timeOf t) : s.day = t.day ∧ s.start = t.start := by
  rw [timeOf_t hs, timeOf_t ht] at h
  injection h with h1 h2 h3 h4
  have := pow2_inj h1
  have a1 := hs.1
  have a2 := ht.1
  exact ⟨by omega, h3⟩
/-- Where the place of a seat is. -/
theorem where_seat {x : Exams} {q : Seat} {s : Sitting} {r : Room} (h0 : examsE x = 0) (hs : x.sits[q.sit]? = some s) (hr : x.rooms[q.room]? = some r) : whereA x (optS x q).place = .tup [vint .i64 q.sit, vint .i64 q.room, vbool true] := by
  have hf := fine_of h0
  have hp : (optS x q).place = ⟨timeOf s, q.room⟩ := by unfold optS; rw [hs]
  have hw : sitW x (timeOf s) = q.sit := by
    unfold sitW
    refine idxB_at (fun j hj y hy => ?_) hs (pB_t rfl)
    refine pB_f fun e => ?_
    obtain ⟨e1, e2⟩ := time_inj (hf.sl _ _ hy) (hf.sl _ _ hs) e
    have := hf.so j q.sit y s hj hy hs
    unfold lexP at this
    omega
  have hrl := (List.getElem?_eq_some_iff.1 hr).1
  rw [hp]
  have hwp : whereP x ⟨timeOf s, q.room⟩ := ⟨h0, by rw [hw]; exact Int.natCast_nonneg _, Int.natCast_nonneg _, by show (q.room : Int) < _; omega⟩
  rw [whereA_t hwp]
  show AV.tup [vint .i64 (sitW x (timeOf s)), _, _] = _
  rw [hw]
section
variable {x : Exams} {pl : List Int}
theorem places_at (hp : planP (mdl x) pl) : ∀ n, n ≤ x.exams.length → (placesTo (mdl x) pl n).length = n ∧ ∀ i, i < n → ∀ q, spotV x pl i = some q → (placesTo (mdl x) pl n)[i]? = some (optS x q).place
  | 0, _ => ⟨rfl, fun i hi => absurd hi (Nat.not_lt_zero _)⟩
  | n + 1, hn => by
    obtain ⟨h1, h2⟩ := places_at hp n (by omega)
    obtain ⟨e, he⟩ := getE (show n < x.exams.length by omega)
    obtain ⟨o, q, ho, hq, hs⟩ := spot_ex hp he
    have hx : ((seatsV x e).map (optS x))[o]? = some (optS x q) := by rw [List.getElem?_map, hq]; rfl
    have hnx := places_next (m := mdl x) (plan := pl) (i := n) (n := o) (l := (seatsV x e).map (optS x)) (x := optS x q) (cls_at he) ho hx
    rw [hnx]
    refine ⟨by rw [List.length_append, h1]; rfl, fun i hi q' hq' => ?_⟩
    rcases Nat.lt_or_ge i n with g | g
    · rw [List.getElem?_append_left (by omega)]; exact h2 i g q' hq'
    · obtain rfl : i = n := by omega
      rw [hs] at hq'; injection hq' with hq'; subst hq'
      rw [List.getElem?_append_right (by omega), h1, Nat.sub_self]; rfl
theorem rel_of {i k : Nat} {q p : Seat} {s t : Sitting} {e f : Exam} {u : Nat} (hs : x.sits[q.sit]? = some s) (ht : x.sits[p.sit]? = some t) (he : x.exams[i]? = some e) (hf : x.exams[k]? = some f) : entX x u i k q p = entC x u q p s t e f := entX_at hs ht he hf
end
section
variable {x : Exams} {pl : List Int} (h0 : examsE x = 0) (hp : planP (mdl x) pl) (hT : ∀ t ∈ termsV (mdl x) pl, t.2 < 1099511627776)
include h0 hp hT
/-- Two exams whose sittings overlap have nobody in common. -/
theorem nobody {i k : Nat} {e f : Exam} {q p : Seat} {s t : Sitting} (hik : i ≠ k) (he : x.exams[i]? = some e) (hf : x.exams[k]? = some f) (hq : spotV x pl i = some q) (hr : spotV x pl k = some p) (hs : x.sits[q.sit]? = some s) (ht : x.sits[p.sit]? = some t) (hrel : relE x q.sit p.sit s t = 0) : comN e.studs f.studs = 0 := by
  have hfi := fine_of h0
  apply Classical.byContradiction
  intro hc
  rcases Nat.lt_or_ge i k with g | g
  · refine ent_lt hp hT g (show 0 < 7 by decide) he hf hq hr ?_
    rw [rel_of hs ht he hf]
    unfold entC
    rw [if_pos ⟨rfl, by omega, hrel⟩]
  · refine ent_lt hp hT (show k < i by omega) (show 0 < 7 by decide) hf he hr hq ?_
    rw [rel_of ht hs hf he]
    unfold entC
    rw [if_pos ⟨rfl, by rw [comN_comm (hfi.el _ _ hf).2 (hfi.el _ _ he).2]; omega, by rw [relE_comm]; exact hrel⟩]
/-- A room is not used in two sittings that overlap. -/
theorem one_room {i k : Nat} {e f : Exam} {q p : Seat} {s t : Sitting} (he : x.exams[i]? = some e) (hf : x.exams[k]? = some f) (hq : spotV x pl i = some q) (hr : spotV x pl k = some p) (hs : x.sits[q.sit]? = some s) (ht : x.sits[p.sit]? = some t) (hrel : relE x q.sit p.sit s t = 0) (hro : q.room = p.room) : q.sit = p.sit := by
  have _ := h0
  apply Classical.byContradiction
  intro hc
  have hik : i ≠ k := fun e => by subst e; rw [hq] at hr; injection hr with hr; subst hr; exact hc rfl
  rcases Nat.lt_or_ge i k with g | g
  · refine ent_lt hp hT g (show 1 < 7 by decide) he hf hq hr ?_
    rw [rel_of hs ht he hf]
    unfold entC
    rw [if_neg (by omega), if_pos ⟨rfl, hro, hc, hrel⟩]
  · refine ent_lt hp hT (show k < i by omega) (show 1 < 7 by decide) hf he hr hq ?_
    rw [rel_of ht hs hf he]
    unfold entC
    rw [if_neg (by omega), if_pos ⟨rfl, hro.symm, fun e => hc e.symm, by rw [relE_comm]; exact hrel⟩]
end
/-- How many students sit in a room in a sitting, of the first exams. -/
noncomputable def inSeat (x : Exams) (pl : List Int) (a r k : Nat) : Int := match spotV x pl k with
  | some q => if seatIs a r q then wtX x k else 0
  | none => 0
noncomputable def sumS (x : Exams) (pl : List Int) (a r n : Nat) : Int := ((List.range n).map (inSeat x pl a r)).sum
theorem sumS_zero {x : Exams} {pl : List Int} {a r : Nat} : sumS x pl a r 0 = 0 := rfl
theorem sumS_succ {x : Exams} {pl : List Int} {a r n : Nat} : sumS x pl a r (n + 1) = sumS x pl a r n + inSeat x pl a r n := by
  unfold sumS; rw [List.range_succ, List.map_append, List.sum_append]; simp
theorem seatIs_iff {a r : Nat} {q : Seat} : seatIs a r q = true ↔ q.sit = a ∧ q.room = r := by unfold seatIs; simp
theorem loadSum_app {pl : List Int} {l : List Load} {y : Load} : loadT pl (l ++ [y]) (l ++ [y]).length = loadT pl l l.length + if pB (hitP pl y) then y.weight else 0 := by
  unfold loadT
  rw [List.take_length, List.take_length, List.map_append, List.sum_append]; simp
theorem loads_sum {x : Exams} {pl : List Int} {a r : Nat} (hp : planP (mdl x) pl) : ∀ n, n ≤ x.exams.length → loadT pl (loadsS (setsX x) (wtX x) a r n) (loadsS (setsX x) (wtX x) a r n).length = sumS x pl a r n
  | 0, _ => rfl
  | n + 1, hn => by
    obtain ⟨e, he⟩ := getE (show n < x.exams.length by omega)
    obtain ⟨o, q, ho, hq, hs⟩ := spot_ex hp he
    have ih := loads_sum (a := a) (r := r) hp n (by omega)
    have hst := sets_at he
    rw [sumS_succ, ← ih]
    have hin : inSeat x pl a r n = if seatIs a r q then wtX x n else 0 := by unfold inSeat; rw [hs]
    cases hfx : (seatsV x e).findIdx? (seatIs a r) with
    | none =>
      have hf : loadF (wtX x) a r n (seatsV x e) = none := by unfold loadF; rw [hfx]; rfl
      have hno : seatIs a r q = false := by
        have := List.findIdx?_eq_none_iff.1 hfx q (List.mem_of_getElem? hq)
        simpa using this
      unfold loadsS
      rw [upto_none hst hf, hin, hno]; simp
    | some j =>
      have hf : loadF (wtX x) a r n (seatsV x e) = some ⟨(n : Int), (j : Int), wtX x n⟩ := by unfold loadF; rw [hfx]; rfl
      obtain ⟨j1, j2, -⟩ := List.findIdx?_eq_some_iff_getElem.1 hfx
      have hj := List.getElem?_eq_getElem j1
      obtain ⟨g1, g2⟩ := seatIs_iff.1 j2
      have hhit : hitP pl ⟨(n : Int), (j : Int), wtX x n⟩ ↔ seatIs a r q = true := by
        unfold hitP
        show pl[((n : Nat) : Int).toNat]? = some ((j : Nat) : Int) ↔ _
        rw [Int.toNat_natCast, ho]
        constructor
        · intro e
          injection e with e
          have : o = j := by omega
          subst this
          rw [hj] at hq; injection hq with hq; rw [← hq]; exact j2
        · intro e
          obtain ⟨h1, h2⟩ := seatIs_iff.1 e
          have := seat_uniq hq hj (by rw [h1, g1]) (by rw [h2, g2])
          subst this; rfl
      unfold loadsS
      rw [upto_some hst hf, loadSum_app, hin, pB_iff hhit]
      by_cases hz : seatIs a r q = true
      · rw [hz]; simp
      · have : seatIs a r q = false := by simpa using hz
        rw [this]; simp
theorem wt_at {x : Exams} {k : Nat} {e : Exam} (he : x.exams[k]? = some e) : wtX x k = e.studs.length := by unfold wtX; rw [he]
theorem load_in {x : Exams} {pl : List Int} {a r k n : Nat} {q : Seat} (hp : planP (mdl x) pl) (hk : k < n) (hn : n ≤ x.exams.length) (hq : spotV x pl k = some q) (h : seatIs a r q = true) : ∃ j : Nat, (⟨(k : Int), (j : Int), wtX x k⟩ : Load) ∈ loadsS (setsX x) (wtX x) a r n := by
  obtain ⟨e, he⟩ := getE (show k < x.exams.length by omega)
  obtain ⟨o, q', ho, hq', hs⟩ := spot_ex hp he
  rw [hs] at hq; injection hq with hq; subst hq
  cases hfx : (seatsV x e).findIdx? (seatIs a r) with
  | none =>
    have := List.findIdx?_eq_none_iff.1 hfx q' (List.mem_of_getElem? hq')
    rw [h] at this; cases this
  | some j => exact ⟨j, upto_mem.2 ⟨k, _, hk, sets_at he, by unfold loadF; rw [hfx]; rfl⟩⟩
/-- No room has more students than seats. -/
theorem seats_fit {x : Exams} {pl : List Int} {i : Nat} {e : Exam} {q : Seat} {rm : Room} (hp : planP (mdl x) pl) (hT : ∀ t ∈ termsV (mdl x) pl, t.2 < 1099511627776) (he : x.exams[i]? = some e) (hq : spotV x pl i = some q) (hr : x.rooms[q.room]? = some rm) : sumS x pl q.sit q.room x.exams.length ≤ rm.seats := by
  have hi := (List.getElem?_eq_some_iff.1 he).1
  have hlt := (List.getElem?_eq_some_iff.1 hr).1
  have hSl : (setsX x).length = x.exams.length := List.length_map _
  obtain ⟨o, q', ho, hq', hs⟩ := spot_ex hp he
  rw [hs] at hq; injection hq with hq; subst hq
  obtain ⟨s, r2, hs1, hr1, hsu⟩ := seat_in (List.mem_of_getElem? hq')
  rw [hr] at hr1; injection hr1 with hr1; subst hr1
  have hsl := (List.getElem?_eq_some_iff.1 hs1).1
  rw [← loads_sum hp _ (Nat.le_refl _)]
  obtain ⟨j, hj⟩ := load_in hp hi (Nat.le_refl _) hs (seatIs_iff.2 ⟨rfl, rfl⟩)
  rcases Nat.lt_or_ge 1 (loadsS (setsX x) (wtX x) q'.sit q'.room x.exams.length).length with g | g
  · have hc : countS (setsX x) (wtX x) (mostX x) q'.sit q'.room = some ⟨1, loadsS (setsX x) (wtX x) q'.sit q'.room x.exams.length, mostX x q'.room, 1099511627776⟩ := by
      unfold countS; rw [hSl, if_pos g]
    have hmem : (⟨1, loadsS (setsX x) (wtX x) q'.sit q'.room x.exams.length, mostX x q'.room, 1099511627776⟩ : Count) ∈ (mdl x).counts := gr_mem.2 ⟨q'.sit, hsl, fm_mem.2 ⟨q'.room, hlt, hc⟩⟩
    have := hT _ (List.mem_append_right _ (List.mem_map.2 ⟨_, by rw [List.take_length]; exact hmem, rfl⟩))
    unfold cntT at this
    dsimp only at this
    have hm : mostX x q'.room = rm.seats := by unfold mostX; rw [hr]
    rw [hm] at this
    apply Classical.byContradiction
    intro hgt
    unfold timesC at this
    rw [if_neg (by omega), if_neg (by omega)] at this
    exact Int.lt_irrefl _ this
  · have h1 : loadsS (setsX x) (wtX x) q'.sit q'.room x.exams.length = [⟨(i : Int), (j : Int), wtX x i⟩] := by
      generalize loadsS (setsX x) (wtX x) q'.sit q'.room x.exams.length = L at *
      match L, hj, g with
      | [y], hj, _ => rw [List.mem_singleton] at hj; rw [hj]
      | _ :: _ :: _, _, g => simp at g
    rw [h1]
    have hw : wtX x i ≤ rm.seats := by rw [wt_at he]; exact hsu.2.1.2
    unfold loadT
    simp only [List.take_length, List.map_cons, List.map_nil, List.sum_cons, List.sum_nil, Int.add_zero]
    have hw0 : 0 ≤ wtX x i := by rw [wt_at he]; exact Int.natCast_nonneg _
    split <;> omega
end Go.Proofs.YtpnghlibmpainaaGreat.Cw

/-
  The law on feasible plans of examinations.
-/
namespace Go.Proofs.YtpnghlibmpainaaGreat.Cw
open Go Go.Cw Go.Proofs
set_option linter.unusedVariables false
set_option maxRecDepth 100000
set_option maxHeartbeats 8000000

theorem mdl_ok {x : Exams} (h : MadeX x) : modelE (mdl x) = 0 := by
  rw [← build_mdl (made_build h)]
  exact valid_build (by have := h.en; omega) (made_build h)
theorem mdl_laid {x : Exams} (h : MadeX x) : Laid (mdl x) := by
  rw [← build_mdl (made_build h)]
  exact (build_laid (by have := h.en; omega)).1
theorem mdl_loads {x : Exams} (h : MadeX x) : ∀ c ∈ (mdl x).counts, c.loads.length ≤ 100 := fun c hc => by
  obtain ⟨a, -, hc⟩ := gr_mem.1 hc
  obtain ⟨r, -, hc⟩ := fm_mem.1 hc
  unfold countS at hc
  split at hc
  · injection hc with hc
    subst hc
    have hSl : (setsX x).length = x.exams.length := List.length_map _
    have := h.en
    exact Nat.le_trans upto_len (by omega)
  · cases hc
theorem c_buildG (x : Exams) (h : MadeX x) : PCall Tryz.prog 20 [ag x.cells] (fun a => a = .tup [ag (mdl x).cells, vint .i64 0]) := by
  have := c_build x (by have := h.en; omega)
  rwa [made_build h, build_mdl (made_build h)] at this
theorem cost_terms {x : Exams} {pl : List Int} (h : MadeX x) (hc : costV (mdl x) pl < 1099511627776) : ∀ t ∈ termsV (mdl x) pl, t.2 < 1099511627776 := total_lt (terms_ok (model_good (mdl_ok h))) hc
theorem c_placeG (x : Exams) (pl : List Int) (h : MadeX x) (hp : planP (mdl x) pl) : PCall Tryz.prog 26 [ag (mdl x).cells, .pv (encInts pl)] (fun r => r = .tup [.pv (.sl 5 ((placesTo (mdl x) pl x.exams.length).map Placed.row)), vint .i64 0]) := by
  have h1 := c_placement (mdl x) pl (mdl_laid h)
  have h2 : completeE (mdl x) pl = 0 := cE0 (mdl_ok h) hp
  have h3 : pl.length = x.exams.length := by rw [hp.1]; exact List.length_map _
  unfold placesV at h1
  rwa [h2, if_pos rfl, h3] at h1
theorem sumS_bnd {x : Exams} {pl : List Int} {a r : Nat} (h : MadeX x) : ∀ k, k ≤ x.exams.length → 0 ≤ sumS x pl a r k ∧ sumS x pl a r k ≤ 4 * k
  | 0, _ => by rw [sumS_zero]; omega
  | k + 1, hk => by
    have h1 := sumS_bnd h (pl := pl) (a := a) (r := r) k (by omega)
    obtain ⟨e, he⟩ := getE (show k < x.exams.length by omega)
    have h2 := (h.exams k e he).studs.2.1
    have h3 : 0 ≤ inSeat x pl a r k ∧ inSeat x pl a r k ≤ 4 := by
      unfold inSeat
      split
      · split
        · rw [wt_at he]; omega
        · omega
      · omega
    rw [sumS_succ]; omega
theorem le_args2 {a b c : AV} (h : ALe b c) : ALeL [a, b] [a, c] := ⟨ALe.refl, h, trivial⟩
theorem least_lt {x : Exams} {q : PV} {T : Int} (hx : MadeX x) (h : LeastR (mdl x) q T) (hT : T < 1099511627776) : ∃ (pl : List Int) (P : List Placed), PLe q (encInts pl) ∧ planP (mdl x) pl ∧ costV (mdl x) pl < 1099511627776 ∧ P = placesTo (mdl x) pl x.exams.length ∧ P.length = x.exams.length ∧ PCall Tryz.prog 26 [ag (mdl x).cells, .pv (encInts pl)] (fun r => r = .tup [.pv (.sl 5 (P.map Placed.row)), vint .i64 0]) := by
  rcases h with rfl | ⟨pl, hle, hp, hcv, h⟩
  · exact absurd hT (by decide)
  · exact ⟨pl, _, hle, hp, by omega, rfl, (places_at hp _ (Nat.le_refl _)).1, c_placeG x pl hx hp⟩
theorem c_examsfeasible (t : List Int) : PCall Tryz.prog 5 [.pv (encInts t)] (fun r => r = vbool true) := by
  refine acall_of tok mixed 153 rfl (fn := Tryz.f5) (c := Tryz.f5.body.getD .skip) (by kernel_rfl) (by kernel_rfl) (by kernel_rfl) rfl 0 rfl ?_
  repeat' (first | ((change vcFun _ _ _ _ _; refine call_new [.pv (encInts t)] rfl (c_roll t) (fun _ _ => rfl) ?_)) | ((change vcFun _ _ _ _ _; refine call_one (i := 0) rfl (fun _ _ => rfl) [.ptr 0 2 0 0] rfl (c_madeG t 0 (by assumption) (Nat.zero_le _)) ?_; rintro _ _ ⟨x, ky, hky, hx, rfl, rfl⟩; refine ⟨_, rfl, fun _ _ => rfl, fun _ _ => rfl, ?_⟩)) | ((change vcFun _ _ _ _ _; refine call_frz rfl (by repeat' (first | trivial | refine And.intro ?_ ?_ | (show 0 + _ ≤ List.length _; simp))) ALeL.refl (c_buildG x hx) ?_; rintro _ rfl)) | ((change vcFun _ _ _ _ _; refine call_frz rfl (by repeat' (first | trivial | refine And.intro ?_ ?_ | (show 0 + _ ≤ List.length _; simp))) ALeL.refl (c_Least (mdl x) (mdl_ok hx) (mdl_laid hx) (mdl_loads hx)) ?_; rintro _ ⟨q0, T, hq0, rfl⟩)) | refine o1 ?_ | refine o2 ?_ | refine k1 ?_ | refine k2 ?_ | refine k3 ?_ | refine k4 ?_ | refine k6 ?_ | refine k7 ?_ | refine k8 ?_ | refine And.intro ?_ ?_ | exact trivial | refine o3 ?_ | refine o4 ?_ | refine o5 ?_ | refine o6 ?_ | refine k5 ?_ | (intro h; first | exact Bool.noConfusion h | exact nz _ h | exact nl h | (simp at h; done) | (simp at h; first | (exfalso; omega) | skip) | skip) | (change retOk _ _ _ _; refine ret_pure rfl trivial ?_) | exact (rfl : allOne _ = true) | (refine (?_ : (0 : Int) ≤ _); omega) | (refine (?_ : _ ≠ _); omega) | (refine (?_ : srcLen _ = rowsLen _); rfl) | exact Nat.le_of_ble_eq_true rfl | exact (by kernel_rfl : drawOk _ _ = true) | refine eqv_len_map ?_ | refine eqv_size ?_ | refine eqv_put (eqv_ck ?_) | refine eqv_zero ?_ | refine eqv_wrap (by omega) (by omega) ?_ | refine eqv_u64 (by omega) (by omega) ?_ | refine eqv_u8 (by omega) (by omega) ?_ | refine eqv_to _ (set_map rfl rfl) ?_ | refine ⟨_, _, (by first | rfl | assumption), at_map (by assumption), ?_⟩ | refine ⟨_, _, (by first | rfl | assumption), (by assumption), ?_⟩ | refine ⟨_, at_map (by assumption), (by decide), ?_⟩ | refine ⟨_, at_map (by assumption), ?_⟩ | (refine (?_ : _ ≤ 140737488355328); simp [rowsLen] <;> omega) | (refine (?_ : _ ≤ 9223372036854775807); simp [rowsLen] <;> omega) | (refine (?_ : _ = rowsLen _); simp [rowsLen] <;> omega) | refine eqv_to _ (app_row rfl) (eqv_to _ app_len ?_) | refine eqv_to _ (app_first rfl) (eqv_to 1 rfl ?_) | refine idx_sl (at_map (by assumption)) (by omega) ?_ | refine idx_ms _ (by first | rfl | assumption) (by first | assumption | omega) ?_ | (change vcFun _ _ _ _ _; refine call_eq rfl (by repeat' (first | trivial | refine And.intro ?_ ?_ | (show 0 + _ ≤ List.length _; simp))) ALeL.refl (c_light t) rfl ?_) | (change vcFun _ _ _ _ _; refine call_eq rfl (by repeat' (first | trivial | refine And.intro ?_ ?_ | (show 0 + _ ≤ List.length _; simp))) ALeL.refl (awake_ok) rfl ?_) | (change vcFunD _ _ _ _ _; refine callD_eq rfl (by repeat' (first | trivial | refine And.intro ?_ ?_ | (show 0 + _ ≤ List.length _; simp))) ALeL.refl (awake_ok) rfl ?_) | fail)
  all_goals first
    | rfl
    | (exfalso; omega)
    | skip
  obtain ⟨pl, P, hle, hp, hcv, hPe, hPl, hpc⟩ := least_lt hx hq0 (by assumption)
  change vcFun _ _ _ _ _
  refine call_frz rfl (by repeat' (first | trivial | refine And.intro ?_ ?_ | (show 0 + _ ≤ List.length _; simp))) (le_args2 (ALe.pv hle)) hpc ?_
  rintro _ rfl
  repeat' (first | refine o1 ?_ | refine o2 ?_ | refine k1 ?_ | refine k2 ?_ | refine k3 ?_ | refine k4 ?_ | refine k6 ?_ | refine k7 ?_ | refine k8 ?_ | refine And.intro ?_ ?_ | exact trivial | refine o3 ?_ | refine o4 ?_ | refine o5 ?_ | refine o6 ?_ | refine k5 ?_ | (intro h; first | exact Bool.noConfusion h | exact nz _ h | exact nl h | (simp at h; done) | (simp at h; first | (exfalso; omega) | skip) | skip) | (change retOk _ _ _ _; refine ret_pure rfl trivial ?_) | exact (rfl : allOne _ = true) | (refine (?_ : (0 : Int) ≤ _); omega) | (refine (?_ : _ ≠ _); omega) | (refine (?_ : srcLen _ = rowsLen _); rfl) | exact Nat.le_of_ble_eq_true rfl | exact (by kernel_rfl : drawOk _ _ = true) | refine eqv_len_map ?_ | refine eqv_size ?_ | refine eqv_put (eqv_ck ?_) | refine eqv_zero ?_ | refine eqv_wrap (by omega) (by omega) ?_ | refine eqv_u64 (by omega) (by omega) ?_ | refine eqv_u8 (by omega) (by omega) ?_ | refine eqv_to _ (set_map rfl rfl) ?_ | refine ⟨_, _, (by first | rfl | assumption), at_map (by assumption), ?_⟩ | refine ⟨_, _, (by first | rfl | assumption), (by assumption), ?_⟩ | refine ⟨_, at_map (by assumption), (by decide), ?_⟩ | refine ⟨_, at_map (by assumption), ?_⟩ | (refine (?_ : _ ≤ 140737488355328); simp [rowsLen] <;> omega) | (refine (?_ : _ ≤ 9223372036854775807); simp [rowsLen] <;> omega) | (refine (?_ : _ = rowsLen _); simp [rowsLen] <;> omega) | refine eqv_to _ (app_row rfl) (eqv_to _ app_len ?_) | refine eqv_to _ (app_first rfl) (eqv_to 1 rfl ?_) | refine idx_sl (at_map (by assumption)) (by omega) ?_ | refine idx_ms _ (by first | rfl | assumption) (by first | assumption | omega) ?_ | (change vcFun _ _ _ _ _; refine call_eq rfl (by repeat' (first | trivial | refine And.intro ?_ ?_ | (show 0 + _ ≤ List.length _; simp))) ALeL.refl (awake_ok) rfl ?_) | (change vcFunD _ _ _ _ _; refine callD_eq rfl (by repeat' (first | trivial | refine And.intro ?_ ?_ | (show 0 + _ ≤ List.length _; simp))) ALeL.refl (awake_ok) rfl ?_) | fail)
  have hT := cost_terms hx hcv
  have h0 := made_ok hx
  have hfi := fine_of h0
  have hen := hx.en
  have hsn := hx.sn
  have hrn := hx.rn
  have hPa := (places_at hp x.exams.length (Nat.le_refl _)).2
  rw [← hPe] at hPa
  refine loop_for (fun i : Nat => [(4, .ptr 0 8 0 0), (9, .pv (.sl 5 (P.map Placed.row))), (11, vint .i64 i)]) (fun i => [some ⟨33, 8, false, .box (pvs x.cells)⟩]) (fun i => i ≤ x.exams.length) (fun i => x.exams.length - i) 0 (Nat.zero_le _) ?_ ?_
  · exact back [1] rfl rfl (by repeat' (first | exact trivial | exact rfl | exact ren_get rfl | refine kept_ob rfl ?_ | exact ⟨_, rfl, ALe.refl⟩ | refine And.intro ?_ ?_)) (by repeat' (first | exact trivial | exact rfl | exact ren_get rfl | refine kept_ob rfl ?_ | exact ⟨_, rfl, ALe.refl⟩ | refine And.intro ?_ ?_))
  intro i hi
  rcases Nat.lt_or_ge i x.exams.length with hlt | hge
  · obtain ⟨e, he⟩ := getE hlt
    obtain ⟨o, q, ho, hq, hs⟩ := spot_ex hp he
    obtain ⟨s, r, hs1, hr1, hsu⟩ := seat_in (List.mem_of_getElem? hq)
    have hPi := hPa i hlt q hs
    have hw := c_Where x (optS x q).place
    rw [where_seat h0 hs1 hr1] at hw
    have hfit := seats_fit hp hT he hs hr1
    have hpr : (P.map Placed.row)[i]? = some (optS x q).place.row := by rw [List.getElem?_map, hPi]; rfl
    repeat' (first | (refine idx_sl (k := i) hpr rfl ?_) | refine o1 ?_ | refine o2 ?_ | refine k1 ?_ | refine k2 ?_ | refine k3 ?_ | refine k4 ?_ | refine k6 ?_ | refine k7 ?_ | refine k8 ?_ | refine And.intro ?_ ?_ | exact trivial | refine o3 ?_ | refine o4 ?_ | refine o5 ?_ | refine o6 ?_ | refine k5 ?_ | (intro h; first | exact Bool.noConfusion h | exact nz _ h | exact nl h | (simp at h; done) | (simp at h; first | (exfalso; omega) | skip) | skip) | (change retOk _ _ _ _; refine ret_pure rfl trivial ?_) | exact (rfl : allOne _ = true) | (refine (?_ : (0 : Int) ≤ _); omega) | (refine (?_ : _ ≠ _); omega) | (refine (?_ : srcLen _ = rowsLen _); rfl) | exact Nat.le_of_ble_eq_true rfl | exact (by kernel_rfl : drawOk _ _ = true) | refine eqv_len_map ?_ | refine eqv_size ?_ | refine eqv_put (eqv_ck ?_) | refine eqv_zero ?_ | refine eqv_wrap (by omega) (by omega) ?_ | refine eqv_u64 (by omega) (by omega) ?_ | refine eqv_u8 (by omega) (by omega) ?_ | refine eqv_to _ (set_map rfl rfl) ?_ | refine ⟨_, _, (by first | rfl | assumption), at_map (by assumption), ?_⟩ | refine ⟨_, _, (by first | rfl | assumption), (by assumption), ?_⟩ | refine ⟨_, at_map (by assumption), (by decide), ?_⟩ | refine ⟨_, at_map (by assumption), ?_⟩ | (refine (?_ : _ ≤ 140737488355328); simp [rowsLen] <;> omega) | (refine (?_ : _ ≤ 9223372036854775807); simp [rowsLen] <;> omega) | (refine (?_ : _ = rowsLen _); simp [rowsLen] <;> omega) | refine eqv_to _ (app_row rfl) (eqv_to _ app_len ?_) | refine eqv_to _ (app_first rfl) (eqv_to 1 rfl ?_) | refine idx_sl (at_map (by assumption)) (by omega) ?_ | refine idx_ms _ (by first | rfl | assumption) (by first | assumption | omega) ?_ | (change vcFunD _ _ _ _ _; refine callD_eq rfl (by repeat' (first | trivial | refine And.intro ?_ ?_ | (show 0 + _ ≤ List.length _; simp))) ALeL.refl (hw) rfl ?_) | fail)
    refine loop_for (fun k : Nat => [(4, .ptr 0 8 0 0), (9, .pv (.sl 5 (P.map Placed.row))), (11, vint .i64 i), (12, vint .i64 q.sit), (13, vint .i64 q.room), (15, vint .i64 (sumS x pl q.sit q.room k)), (16, vint .i64 k)]) (fun k => [some ⟨33, 8, false, .box (pvs x.cells)⟩]) (fun k => k ≤ x.exams.length) (fun k => x.exams.length - k) 0 (Nat.zero_le _) ?_ ?_
    · exact back [0] rfl rfl (by repeat' (first | exact trivial | exact rfl | exact ren_get rfl | refine kept_ob rfl ?_ | exact ⟨_, rfl, ALe.refl⟩ | refine And.intro ?_ ?_)) (by repeat' (first | exact trivial | exact rfl | exact ren_get rfl | refine kept_ob rfl ?_ | exact ⟨_, rfl, ALe.refl⟩ | refine And.intro ?_ ?_))
    intro k hk
    have hsb := sumS_bnd hx (pl := pl) (a := q.sit) (r := q.room) k hk
    rcases Nat.lt_or_ge k x.exams.length with hlk | hgk
    · obtain ⟨f, hf⟩ := getE hlk
      obtain ⟨o', p, ho', hp', hs'⟩ := spot_ex hp hf
      obtain ⟨s', r', hs1', hr1', hsu'⟩ := seat_in (List.mem_of_getElem? hp')
      have hPk := hPa k hlk p hs'
      have hwk := c_Where x (optS x p).place
      rw [where_seat h0 hs1' hr1'] at hwk
      have hpk : (P.map Placed.row)[k]? = some (optS x p).place.row := by rw [List.getElem?_map, hPk]; rfl
      have hrel := c_Relation x q.sit p.sit
      have hcom := c_Common x i k
      rw [relA_t h0 hs1 hs1'] at hrel
      rw [comA_t h0 he hf] at hcom
      have F1 : (i : Int) ≠ k → relE x q.sit p.sit s s' = 0 → ((comN e.studs f.studs : Nat) : Int) = 0 := fun h1 h2 => by rw [nobody h0 hp hT (fun e => h1 (by rw [e])) he hf hs hs' hs1 hs1' h2]; rfl
      have F2 : relE x q.sit p.sit s s' = 0 → (q.room : Int) = p.room → (q.sit : Int) = p.sit := fun h1 h2 => by rw [one_room h0 hp hT he hf hs hs' hs1 hs1' h1 (by omega)]
      have F3 : (q.room : Int) = p.room → (q.sit : Int) = p.sit → sumS x pl q.sit q.room (k + 1) = sumS x pl q.sit q.room k + f.studs.length := fun h1 h2 => by
        rw [sumS_succ]
        unfold inSeat
        rw [hs']
        dsimp only
        rw [seatIs_iff.2 ⟨by omega, by omega⟩, if_pos rfl, wt_at hf]
      have F4 : ¬ ((q.room : Int) = p.room ∧ (q.sit : Int) = p.sit) → sumS x pl q.sit q.room (k + 1) = sumS x pl q.sit q.room k := fun h1 => by
        rw [sumS_succ]
        unfold inSeat
        rw [hs']
        dsimp only
        rw [if_neg (fun e => h1 (by have := seatIs_iff.1 e; omega)), Int.add_zero]
      have hfs := (hx.exams k f hf).studs.2.1
      have hcn0 : (0 : Int) ≤ ((comN e.studs f.studs : Nat) : Int) := Int.natCast_nonneg _
      generalize relE x q.sit p.sit s s' = ρ at *
      generalize ((comN e.studs f.studs : Nat) : Int) = γ at *
      repeat' (first | (refine idx_sl (k := k) hpk rfl ?_) | (refine idx_sl (k := k) (at_map hf) rfl ?_) | refine o1 ?_ | refine o2 ?_ | refine k1 ?_ | refine k2 ?_ | refine k3 ?_ | refine k4 ?_ | refine k6 ?_ | refine k7 ?_ | refine k8 ?_ | refine And.intro ?_ ?_ | exact trivial | refine o3 ?_ | refine o4 ?_ | refine o5 ?_ | refine o6 ?_ | refine k5 ?_ | (intro h; first | exact Bool.noConfusion h | exact nz _ h | exact nl h | (simp at h; done) | (simp at h; first | (exfalso; omega) | skip) | skip) | (change retOk _ _ _ _; refine ret_pure rfl trivial ?_) | exact (rfl : allOne _ = true) | (refine (?_ : (0 : Int) ≤ _); omega) | (refine (?_ : _ ≠ _); omega) | (refine (?_ : srcLen _ = rowsLen _); rfl) | exact Nat.le_of_ble_eq_true rfl | exact (by kernel_rfl : drawOk _ _ = true) | refine eqv_len_map ?_ | refine eqv_size ?_ | refine eqv_put (eqv_ck ?_) | refine eqv_zero ?_ | refine eqv_wrap (by omega) (by omega) ?_ | refine eqv_u64 (by omega) (by omega) ?_ | refine eqv_u8 (by omega) (by omega) ?_ | refine eqv_to _ (set_map rfl rfl) ?_ | refine ⟨_, _, (by first | rfl | assumption), at_map (by assumption), ?_⟩ | refine ⟨_, _, (by first | rfl | assumption), (by assumption), ?_⟩ | refine ⟨_, at_map (by assumption), (by decide), ?_⟩ | refine ⟨_, at_map (by assumption), ?_⟩ | (refine (?_ : _ ≤ 140737488355328); simp [rowsLen] <;> omega) | (refine (?_ : _ ≤ 9223372036854775807); simp [rowsLen] <;> omega) | (refine (?_ : _ = rowsLen _); simp [rowsLen] <;> omega) | refine eqv_to _ (app_row rfl) (eqv_to _ app_len ?_) | refine eqv_to _ (app_first rfl) (eqv_to 1 rfl ?_) | refine idx_sl (at_map (by assumption)) (by omega) ?_ | refine idx_ms _ (by first | rfl | assumption) (by first | assumption | omega) ?_ | (change vcFun _ _ _ _ _; refine call_eq rfl (by repeat' (first | trivial | refine And.intro ?_ ?_ | (show 0 + _ ≤ List.length _; simp))) ALeL.refl (hrel) rfl ?_) | (change vcFunD _ _ _ _ _; refine callD_eq rfl (by repeat' (first | trivial | refine And.intro ?_ ?_ | (show 0 + _ ≤ List.length _; simp))) ALeL.refl (hrel) rfl ?_) | (change vcFun _ _ _ _ _; refine call_eq rfl (by repeat' (first | trivial | refine And.intro ?_ ?_ | (show 0 + _ ≤ List.length _; simp))) ALeL.refl (hcom) rfl ?_) | (change vcFunD _ _ _ _ _; refine callD_eq rfl (by repeat' (first | trivial | refine And.intro ?_ ?_ | (show 0 + _ ≤ List.length _; simp))) ALeL.refl (hcom) rfl ?_) | (change vcFunD _ _ _ _ _; refine callD_eq rfl (by repeat' (first | trivial | refine And.intro ?_ ?_ | (show 0 + _ ≤ List.length _; simp))) ALeL.refl (hwk) rfl ?_) | fail)
      all_goals by_cases hc : (q.room : Int) = p.room ∧ (q.sit : Int) = p.sit
      all_goals first
        | (exfalso; omega)
        | (have hz := F3 hc.1 hc.2
           refine ⟨k + 1, hlk, by omega, ?_⟩
           rw [hz]
           exact back [0] rfl rfl (by repeat' (first | exact trivial | exact rfl | exact ren_get rfl | refine kept_ob rfl ?_ | exact ⟨_, rfl, ALe.refl⟩ | refine And.intro ?_ ?_)) (by repeat' (first | exact trivial | exact rfl | exact ren_get rfl | refine kept_ob rfl ?_ | exact ⟨_, rfl, ALe.refl⟩ | refine And.intro ?_ ?_)))
        | (have hz := F4 hc
           refine ⟨k + 1, hlk, by omega, ?_⟩
           rw [hz]
           exact back [0] rfl rfl (by repeat' (first | exact trivial | exact rfl | exact ren_get rfl | refine kept_ob rfl ?_ | exact ⟨_, rfl, ALe.refl⟩ | refine And.intro ?_ ?_)) (by repeat' (first | exact trivial | exact rfl | exact ren_get rfl | refine kept_ob rfl ?_ | exact ⟨_, rfl, ALe.refl⟩ | refine And.intro ?_ ?_)))
    obtain rfl : k = x.exams.length := by omega
    repeat' (first | (refine idx_sl (k := q.room) (at_map hr1) rfl ?_) | refine o1 ?_ | refine o2 ?_ | refine k1 ?_ | refine k2 ?_ | refine k3 ?_ | refine k4 ?_ | refine k6 ?_ | refine k7 ?_ | refine k8 ?_ | refine And.intro ?_ ?_ | exact trivial | refine o3 ?_ | refine o4 ?_ | refine o5 ?_ | refine o6 ?_ | refine k5 ?_ | (intro h; first | exact Bool.noConfusion h | exact nz _ h | exact nl h | (simp at h; done) | (simp at h; first | (exfalso; omega) | skip) | skip) | (change retOk _ _ _ _; refine ret_pure rfl trivial ?_) | exact (rfl : allOne _ = true) | (refine (?_ : (0 : Int) ≤ _); omega) | (refine (?_ : _ ≠ _); omega) | (refine (?_ : srcLen _ = rowsLen _); rfl) | exact Nat.le_of_ble_eq_true rfl | exact (by kernel_rfl : drawOk _ _ = true) | refine eqv_len_map ?_ | refine eqv_size ?_ | refine eqv_put (eqv_ck ?_) | refine eqv_zero ?_ | refine eqv_wrap (by omega) (by omega) ?_ | refine eqv_u64 (by omega) (by omega) ?_ | refine eqv_u8 (by omega) (by omega) ?_ | refine eqv_to _ (set_map rfl rfl) ?_ | refine ⟨_, _, (by first | rfl | assumption), at_map (by assumption), ?_⟩ | refine ⟨_, _, (by first | rfl | assumption), (by assumption), ?_⟩ | refine ⟨_, at_map (by assumption), (by decide), ?_⟩ | refine ⟨_, at_map (by assumption), ?_⟩ | (refine (?_ : _ ≤ 140737488355328); simp [rowsLen] <;> omega) | (refine (?_ : _ ≤ 9223372036854775807); simp [rowsLen] <;> omega) | (refine (?_ : _ = rowsLen _); simp [rowsLen] <;> omega) | refine eqv_to _ (app_row rfl) (eqv_to _ app_len ?_) | refine eqv_to _ (app_first rfl) (eqv_to 1 rfl ?_) | refine idx_sl (at_map (by assumption)) (by omega) ?_ | refine idx_ms _ (by first | rfl | assumption) (by first | assumption | omega) ?_ | fail)
    all_goals first
      | (exfalso; omega)
      | exact ⟨i + 1, hlt, by omega, back [0] rfl rfl (by repeat' (first | exact trivial | exact rfl | exact ren_get rfl | refine kept_ob rfl ?_ | exact ⟨_, rfl, ALe.refl⟩ | refine And.intro ?_ ?_)) (by repeat' (first | exact trivial | exact rfl | exact ren_get rfl | refine kept_ob rfl ?_ | exact ⟨_, rfl, ALe.refl⟩ | refine And.intro ?_ ?_))⟩
  obtain rfl : i = x.exams.length := by omega
  repeat' (first | refine o1 ?_ | refine o2 ?_ | refine k1 ?_ | refine k2 ?_ | refine k3 ?_ | refine k4 ?_ | refine k6 ?_ | refine k7 ?_ | refine k8 ?_ | refine And.intro ?_ ?_ | exact trivial | refine o3 ?_ | refine o4 ?_ | refine o5 ?_ | refine o6 ?_ | refine k5 ?_ | (intro h; first | exact Bool.noConfusion h | exact nz _ h | exact nl h | (simp at h; done) | (simp at h; first | (exfalso; omega) | skip) | skip) | (change retOk _ _ _ _; refine ret_pure rfl trivial ?_) | exact (rfl : allOne _ = true) | (refine (?_ : (0 : Int) ≤ _); omega) | (refine (?_ : _ ≠ _); omega) | (refine (?_ : srcLen _ = rowsLen _); rfl) | exact Nat.le_of_ble_eq_true rfl | exact (by kernel_rfl : drawOk _ _ = true) | refine eqv_len_map ?_ | refine eqv_size ?_ | refine eqv_put (eqv_ck ?_) | refine eqv_zero ?_ | refine eqv_wrap (by omega) (by omega) ?_ | refine eqv_u64 (by omega) (by omega) ?_ | refine eqv_u8 (by omega) (by omega) ?_ | refine eqv_to _ (set_map rfl rfl) ?_ | refine ⟨_, _, (by first | rfl | assumption), at_map (by assumption), ?_⟩ | refine ⟨_, _, (by first | rfl | assumption), (by assumption), ?_⟩ | refine ⟨_, at_map (by assumption), (by decide), ?_⟩ | refine ⟨_, at_map (by assumption), ?_⟩ | (refine (?_ : _ ≤ 140737488355328); simp [rowsLen] <;> omega) | (refine (?_ : _ ≤ 9223372036854775807); simp [rowsLen] <;> omega) | (refine (?_ : _ = rowsLen _); simp [rowsLen] <;> omega) | refine eqv_to _ (app_row rfl) (eqv_to _ app_len ?_) | refine eqv_to _ (app_first rfl) (eqv_to 1 rfl ?_) | refine idx_sl (at_map (by assumption)) (by omega) ?_ | refine idx_ms _ (by first | rfl | assumption) (by first | assumption | omega) ?_ | (change vcFun _ _ _ _ _; refine call_eq rfl (by repeat' (first | trivial | refine And.intro ?_ ?_ | (show 0 + _ ≤ List.length _; simp))) ALeL.refl (awake_ok) rfl ?_) | (change vcFunD _ _ _ _ _; refine callD_eq rfl (by repeat' (first | trivial | refine And.intro ?_ ?_ | (show 0 + _ ≤ List.length _; simp))) ALeL.refl (awake_ok) rfl ?_) | fail)
  all_goals first
    | rfl
end Go.Proofs.YtpnghlibmpainaaGreat.Cw

/-
  What the laws of chapter 32 are handed.
-/
namespace Go.Proofs.YtpnghlibmpainaaGreat.Cw
open Go.Cw Go.Proofs
set_option linter.unusedVariables false
set_option maxRecDepth 100000

theorem in_int {qs : List PV} (h : PTy T 3 qs) : ∃ n : Int, qs = [ei n] ∧ -9223372036854775808 ≤ n ∧ n ≤ 9223372036854775807 := kd_int (by kernel_rfl) h
theorem in_int1 {qs : List PV} (h : PTy T 3 qs) : ∃ n : Int, qs = [ei n] := by
  obtain ⟨s, h, _⟩ := in_int h
  exact ⟨s, h⟩
theorem in_ints {qs : List PV} (h : PTy T 24 qs) : ∃ l : List Int, qs = [encInts l] := by
  obtain ⟨l, h, _⟩ := kd_slice (fun s => [ei s]) (fun _ => True) (e := 3) (z := 1) (by kernel_rfl) (fun r hr => by obtain ⟨s, h⟩ := in_int1 hr; exact ⟨s, h, trivial⟩) h
  exact ⟨l, h⟩
theorem args_ints {ts : List TypeId} {al : List AV} (h : ArgsOk T (24 :: ts) al) : ∃ (l : List Int) (al' : _), al = .pv (encInts l) :: al' ∧ ArgsOk T ts al' := by
  obtain ⟨q, al', rfl, h1, h2⟩ := args_one (by kernel_rfl) h
  obtain ⟨l, h⟩ := in_ints h1
  injection h with h; subst h
  exact ⟨l, al', rfl, h2⟩
end Go.Proofs.YtpnghlibmpainaaGreat.Cw
