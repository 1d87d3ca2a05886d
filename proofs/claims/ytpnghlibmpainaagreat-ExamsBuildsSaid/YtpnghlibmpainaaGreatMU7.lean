/-
  Part 7 of the proof (X12, X4, M2, M3, M4, M5): what later parts use. No conditions.
-/
import Derived.Test.YtpnghlibmpainaaGreatMU6

/-
  Contracts: the model of examinations, by the reference.
-/
namespace Go.Proofs.YtpnghlibmpainaaGreat.Cw
open Go Go.Cw Go.Proofs
set_option linter.unusedVariables false
set_option maxRecDepth 100000
set_option maxHeartbeats 20000000

theorem ren_m0 {d i z : Nat} {rn : List Nat} {r : List (List PV)} {p1 p2 p3 : PV} : renL d rn [slP i z r, .pv p1, .pv p2, .pv p3] = [slP (rn.getD i d) z r, .pv p1, .pv p2, .pv p3] := by simp [renL, renC, ren_sl]
theorem ren_m1 {d i z : Nat} {rn : List Nat} {r : List (List PV)} {p1 p2 p3 : PV} : renL d rn [.pv p1, slP i z r, .pv p2, .pv p3] = [.pv p1, slP (rn.getD i d) z r, .pv p2, .pv p3] := by simp [renL, renC, ren_sl]
theorem ren_m2 {d i z : Nat} {rn : List Nat} {r : List (List PV)} {p1 p2 p3 : PV} : renL d rn [.pv p1, .pv p2, slP i z r, .pv p3] = [.pv p1, .pv p2, slP (rn.getD i d) z r, .pv p3] := by simp [renL, renC, ren_sl]
theorem seats_pw {x : Exams} {e : Exam} : (seatsV x e).Pairwise fun p q => ¬ (p.sit = q.sit ∧ p.room = q.room) := by
  refine gr_pw _ (fun i _ => ?_) fun i j hij _ p hp q hq => ?_
  · unfold seatsI
    split
    · refine fm_pw (fun a b p q hab hp hq => ?_) _
      obtain ⟨_, -, hp⟩ := Option.bind_eq_some_iff.1 hp
      obtain ⟨_, -, hq⟩ := Option.bind_eq_some_iff.1 hq
      unfold seatF at hp hq
      split at hp <;> split at hq <;> first | (cases hp; done) | (cases hq; done) | (injection hp with hp; injection hq with hq; subst hp; subst hq; intro h; have := h.2; dsimp only at this; omega)
    · exact List.Pairwise.nil
  · have sit : ∀ {i : Nat} {p : Seat}, p ∈ seatsI x e i → p.sit = i := fun {i p} hp => by
      unfold seatsI at hp
      split at hp
      · obtain ⟨_, _, -, -, hf⟩ := upto_mem.1 hp
        unfold seatF at hf
        split at hf
        · injection hf with hf; subst hf; rfl
        · cases hf
      · cases hp
    have h1 := sit hp
    have h2 := sit hq
    intro h
    omega
theorem seats_uniq {x : Exams} {e : Exam} {j k : Nat} {p q : Seat} (h1 : (seatsV x e)[j]? = some p) (h2 : (seatsV x e)[k]? = some q) (hs : p.sit = q.sit) (hr : p.room = q.room) : j = k := by
  obtain ⟨hj, rfl⟩ := List.getElem?_eq_some_iff.1 h1
  obtain ⟨hk, rfl⟩ := List.getElem?_eq_some_iff.1 h2
  have h := List.pairwise_iff_getElem.1 (seats_pw (x := x) (e := e))
  rcases Nat.lt_trichotomy j k with g | g | g
  · exact absurd ⟨hs, hr⟩ (h j k hj hk g)
  · exact g
  · exact absurd ⟨hs.symm, hr.symm⟩ (h k j hk hj g)
/-- What a class's seats add to the loads of a sitting and a room, as far as they are looked at. -/
def partL (A : List Seat) (s r i : Nat) (w : Int) (k : Nat) : List Load := match A.findIdx? (seatIs s r) with
  | some j => if j < k then [⟨(i : Int), (j : Int), w⟩] else []
  | none => []
theorem partL_zero {A : List Seat} {s r i : Nat} {w : Int} : partL A s r i w 0 = [] := by
  unfold partL
  split
  · exact if_neg (by omega)
  · rfl
theorem partL_len {A : List Seat} {s r i k : Nat} {w : Int} : (partL A s r i w k).length ≤ 1 := by
  unfold partL
  split
  · split <;> simp
  · simp
theorem partL_yes {A : List Seat} {s r i k : Nat} {w : Int} {q : Seat} (hq : A[k]? = some q) (hu : ∀ (j k : Nat) p q, A[j]? = some p → A[k]? = some q → p.sit = q.sit → p.room = q.room → j = k) (h : q.sit = s ∧ q.room = r) : partL A s r i w (k + 1) = partL A s r i w k ++ [⟨(i : Int), (k : Int), w⟩] := by
  have hf : A.findIdx? (seatIs s r) = some k := idxQ_at (fun j hj y hy => seatIs_f fun e => by have := hu j k y q hy hq (by omega) (by omega); omega) hq (seatIs_t h)
  unfold partL
  rw [hf]
  dsimp only
  rw [if_pos (by omega), if_neg (by omega)]
  rfl
theorem partL_no {A : List Seat} {s r i k : Nat} {w : Int} {q : Seat} (hq : A[k]? = some q) (h : ¬ (q.sit = s ∧ q.room = r)) : partL A s r i w (k + 1) = partL A s r i w k := by
  unfold partL
  split
  · rename_i j hj
    have hne : j ≠ k := fun e => by
      subst e
      obtain ⟨hk, hp, -⟩ := List.findIdx?_eq_some_iff_getElem.1 hj
      obtain ⟨_, rfl⟩ := List.getElem?_eq_some_iff.1 hq
      rw [seatIs_f h] at hp
      cases hp
    by_cases h1 : j < k
    · rw [if_pos h1, if_pos (by omega)]
    · rw [if_neg h1, if_neg (by omega)]
  · rfl
theorem loads_all {S : List (List Seat)} {W : Nat → Int} {s r i : Nat} {A : List Seat} (hA : S[i]? = some A) : loadsS S W s r (i + 1) = loadsS S W s r i ++ partL A s r i (W i) A.length := by
  unfold loadsS partL
  cases hf : A.findIdx? (seatIs s r) with
  | none => rw [upto_none hA (show loadF W s r i A = none by unfold loadF; rw [hf]; rfl)]; simp
  | some j =>
    have hj := (List.findIdx?_eq_some_iff_getElem.1 hf).1
    rw [upto_some hA (show loadF W s r i A = some ⟨(i : Int), (j : Int), W i⟩ by unfold loadF; rw [hf]; rfl)]
    dsimp only
    rw [if_pos hj]
theorem c_rbuild0 (x : Exams) (h0 : examsE x = 0) (hl : LensX x) (h6 : x.exams.length ≤ 6) : PCall Tryz.prog 21 [ag x.cells] (fun a => Leq a (.tup [ag (buildM x).cells, vint .i64 (buildE x)])) := by
  have h1 := c_rexams x
  rw [h0] at h1
  refine acall_of tok mixed 254 rfl (fn := Tryz.f21) (c := Tryz.f21.body.getD .skip) (by kernel_rfl) (by kernel_rfl) (by kernel_rfl) rfl 0 rfl ?_
  repeat' (first | refine o1 ?_ | refine o2 ?_ | refine k1 ?_ | refine k2 ?_ | refine k3 ?_ | refine k4 ?_ | refine k6 ?_ | refine And.intro ?_ ?_ | (intro h; first | exact Bool.noConfusion h | exact nz _ h | exact nl h | (simp at h; done) | (simp at h; first | (exfalso; omega) | skip) | skip) | exact (by kernel_rfl : drawOk _ _ = true) | (change vcFun _ _ _ _ _; refine call_eq rfl (by repeat' (first | trivial | refine And.intro ?_ ?_ | (show 0 + _ ≤ List.length _; simp))) ALeL.refl (h1) rfl ?_) | fail)
  refine loop_for (fun i : Nat => [(1, .ptr 0 8 0 0), (2, .ptr 1 4 0 0), (3, vint .i64 0), (5, .ptr 2 4 0 0), (6, slP 4 1 (rowsA x i)), (7, vint .i64 i)]) (fun i => [some ⟨33, 8, false, .box (pvs x.cells)⟩, some ⟨51, 4, false, .box (pvs zeroM)⟩, some ⟨51, 4, false, .box [slP 3 1 (rowsC x i), nilA, nilA, vint .i64 7]⟩, obP 73 1 (rowsC x i), obP 109 1 (rowsA x i)]) (fun i => i ≤ x.exams.length ∧ ∀ j, j < i → sizeE x j = 0) (fun i => x.exams.length - i) 0 ⟨Nat.zero_le _, fun j hj => by omega⟩ ?_ ?_
  · exact back [0, 1, 2, 3, 4] rfl rfl (by repeat' (first | exact trivial | exact rfl | refine kept_bx ren_m0 rfl ?_ | refine And.intro ?_ ?_)) (by repeat' (first | exact trivial | exact rfl | refine And.intro ?_ ?_))
  intro i ⟨hi, hall⟩
  have la := rowsA_len (x := x) (i := i)
  have lc := rowsC_len (x := x) (i := i)
  rcases Nat.lt_or_ge i x.exams.length with hlt | hge
  · obtain ⟨e, he⟩ := getE hlt
    have hsp := c_spots x i e hl he
    have hsz := sizeE_at he
    have hbad := bad_build h0 hall he
    have hA := rowsA_succ he
    have hC := rowsC_succ he
    have hsit : ∀ s ∈ seatsV x e, ∃ t, x.sits[s.sit]? = some t := fun s hs => seats_sit hs
    generalize rowsA x i = SA at *
    generalize rowsC x i = SC at *
    generalize seatsV x e = Q at *
    by_cases hb : Q.length ≤ 24
    · repeat' (first | (refine fh_ob ?_) | ((change vcFun _ _ _ _ _; refine call_frz rfl (by repeat' (first | trivial | refine And.intro ?_ ?_ | (show 0 + _ ≤ List.length _; simp))) ALeL.refl hsp ?_; rintro _ rfl)) | refine o1 ?_ | refine o2 ?_ | refine k1 ?_ | refine k2 ?_ | refine k3 ?_ | refine k4 ?_ | refine k6 ?_ | refine And.intro ?_ ?_ | (intro h; first | exact Bool.noConfusion h | exact nz _ h | exact nl h | (simp at h; done) | (simp at h; first | (exfalso; omega) | skip) | skip) | refine eqv_len_map ?_ | fail)
      refine loop_for (fun k : Nat => [(1, .ptr 0 8 0 0), (2, .ptr 1 4 0 0), (3, vint .i64 0), (5, .ptr 2 4 0 0), (6, slP 4 1 SA), (7, vint .i64 i), (8, .pv (.sl 2 (Q.map Seat.row))), (9, slP 5 6 (rowsO x (Q.take k))), (10, vint .i64 k)]) (fun k => [some ⟨33, 8, false, .box (pvs x.cells)⟩, some ⟨51, 4, false, .box (pvs zeroM)⟩, some ⟨51, 4, false, .box [slP 3 1 SC, nilA, nilA, vint .i64 7]⟩, obP 73 1 SC, obP 109 1 SA, obP 76 6 (rowsO x (Q.take k))]) (fun k => k ≤ Q.length) (fun k => Q.length - k) 0 (Nat.zero_le _) ?_ ?_
      · exact back [0, 1, 2, 3, 4, 5] rfl rfl (by repeat' (first | exact trivial | exact rfl | refine kept_ob rfl ?_ | refine kept_bx ren_m0 rfl ?_ | refine And.intro ?_ ?_)) (by repeat' (first | exact trivial | exact rfl | exact ren_get rfl | refine And.intro ?_ ?_))
      intro k hk
      have htk : (Q.take k).length ≤ 24 := Nat.le_trans (List.length_take_le' ..) hb
      rcases Nat.lt_or_ge k Q.length with hkl | hkg
      · obtain ⟨s, hs⟩ := getE hkl
        obtain ⟨t, ht⟩ := hsit s (List.mem_of_getElem? hs)
        have hU := take_snoc hs
        have c2 := c_rtime t
        have hop : optB (optS x s) = _ := optB_at (i := s.sit) (r := s.room) ht
        generalize Q.take k = U at *
        by_cases hco : 0 < t.cost
        · rw [if_pos hco] at hop
          repeat' (first | (refine join_in (a := .seq (.region 18 _ _) _) (fun _ : Unit => []) (fun _ => [some ⟨33, 8, false, .box (pvs x.cells)⟩, some ⟨51, 4, false, .box (pvs zeroM)⟩, some ⟨51, 4, false, .box [slP 3 1 SC, nilA, nilA, vint .i64 7]⟩, obP 73 1 SC, obP 109 1 SA, obP 76 6 (rowsO x U), some ⟨23, 4, false, .box (pvs t.row)⟩, some ⟨76, 6, false, .box [.pv (ei (timeOf t).weeks), .pv (ei (timeOf t).day), .pv (ei (timeOf t).start), .pv (ei (timeOf t).len), .pv (ei s.room), .pv (.sl 2 [[ei 5, ei t.cost]])]⟩]) (fun _ => True) ⟨?_, ?_⟩) | (refine fh_ob ?_) | (refine idx_sl (k := k) (at_map hs) rfl ?_) | (refine idx_sl (k := s.sit) (at_map ht) rfl ?_) | refine o1 ?_ | refine o2 ?_ | refine k1 ?_ | refine k2 ?_ | refine k3 ?_ | refine k4 ?_ | refine k6 ?_ | refine And.intro ?_ ?_ | refine o3 ?_ | refine o4 ?_ | (intro h; first | exact Bool.noConfusion h | exact nz _ h | exact nl h | (simp at h; done) | (simp at h; first | (exfalso; omega) | skip) | skip) | exact (by kernel_rfl : drawOk _ _ = true) | refine eqv_len_map ?_ | (change vcFunD _ _ _ _ _; refine callD_eq rfl (by repeat' (first | trivial | refine And.intro ?_ ?_ | (show 0 + _ ≤ List.length _; simp))) ALeL.refl (c2) rfl ?_) | fail)
          · exact ⟨(), True.intro, Ghost.shut_sl (i := 7) (c := 5) (id := 8) (ty := 114) (rows := [[ei 5, ei t.cost]]) rfl rfl rfl (by decide) fun H' hl h2 hH => back [0, 1, 2, 3, 4, 5, 6, 7] rfl rfl (And.intro (hH 0 (by decide) (by decide)) (And.intro (hH 1 (by decide) (by decide)) (kept_bx ren_m0 (hH 2 (by decide) (by decide)) (kept_ob (hH 3 (by decide) (by decide)) (kept_ob (hH 4 (by decide) (by decide)) (kept_ob (hH 5 (by decide) (by decide)) (And.intro (hH 6 (by decide) (by decide)) (And.intro h2 trivial)))))))) (by repeat' (first | exact trivial | exact rfl | exact ren_get rfl | refine And.intro ?_ ?_))⟩
          refine ⟨fun _ _ => ?_⟩
          repeat' (first | (refine fv_sl ?_) | (refine fh_ob ?_) | ((refine o_app rfl rfl rfl rfl rfl rfl rfl rfl rfl rfl rfl (by rw [rowsO_len]; omega) (by rw [rowsO_len]; omega) ?_)) | refine o1 ?_ | refine o2 ?_ | refine k2 ?_ | refine eqv_wrap (by omega) (by omega) ?_ | fail)
          refine ⟨k + 1, by omega, by omega, ?_⟩
          rw [hU, rowsO_snoc, hop, sl_app, ob_app]
          exact back [0, 1, 2, 3, 4, 9] rfl rfl (by repeat' (first | exact trivial | exact rfl | refine kept_ob rfl ?_ | refine kept_bx ren_m0 rfl ?_ | refine And.intro ?_ ?_)) (by repeat' (first | exact trivial | exact rfl | exact ren_get rfl | refine And.intro ?_ ?_))
        · rw [if_neg hco] at hop
          repeat' (first | (refine fv_sl ?_) | (refine fh_ob ?_) | (refine idx_sl (k := k) (at_map hs) rfl ?_) | (refine idx_sl (k := s.sit) (at_map ht) rfl ?_) | ((refine o_app rfl rfl rfl rfl rfl rfl rfl rfl rfl rfl rfl (by rw [rowsO_len]; omega) (by rw [rowsO_len]; omega) ?_)) | refine o1 ?_ | refine o2 ?_ | refine k1 ?_ | refine k2 ?_ | refine k3 ?_ | refine k4 ?_ | refine k6 ?_ | refine And.intro ?_ ?_ | refine o3 ?_ | refine o4 ?_ | (intro h; first | exact Bool.noConfusion h | exact nz _ h | exact nl h | (simp at h; done) | (simp at h; first | (exfalso; omega) | skip) | skip) | exact (by kernel_rfl : drawOk _ _ = true) | refine eqv_len_map ?_ | refine eqv_wrap (by omega) (by omega) ?_ | (change vcFunD _ _ _ _ _; refine callD_eq rfl (by repeat' (first | trivial | refine And.intro ?_ ?_ | (show 0 + _ ≤ List.length _; simp))) ALeL.refl (c2) rfl ?_) | fail)
          refine ⟨k + 1, by omega, by omega, ?_⟩
          rw [hU, rowsO_snoc, hop, sl_app, ob_app]
          exact back [0, 1, 2, 3, 4, 9] rfl rfl (by repeat' (first | exact trivial | exact rfl | refine kept_ob rfl ?_ | refine kept_bx ren_m0 rfl ?_ | refine And.intro ?_ ?_)) (by repeat' (first | exact trivial | exact rfl | exact ren_get rfl | refine And.intro ?_ ?_))
      obtain rfl : k = Q.length := by omega
      refine forceH_in ?_
      rw [List.take_length]
      refine ghost_seq (Γ' := [(1, .ptr 0 8 0 0), (2, .ptr 1 4 0 0), (3, vint .i64 0), (5, .ptr 2 4 0 0), (6, slP 4 1 SA), (7, vint .i64 i), (8, .pv (.sl 2 (Q.map Seat.row))), (9, .pv (.sl 6 (rowsO x Q))), (10, vint .i64 Q.length)]) (H' := [some ⟨33, 8, false, .box (pvs x.cells)⟩, some ⟨51, 4, false, .box (pvs zeroM)⟩, some ⟨51, 4, false, .box [slP 3 1 SC, nilA, nilA, vint .i64 7]⟩, obP 73 1 SC, obP 109 1 SA])
        (Ghost.sl (s := 9) (id := 5) rfl rfl fun H' hl hH => back [0, 1, 2, 3, 4] rfl rfl (And.intro (hH 0 (by decide)) (And.intro (hH 1 (by decide)) (kept_bx ren_m0 (hH 2 (by decide)) (kept_ob (hH 3 (by decide)) (kept_ob (hH 4 (by decide)) trivial))))) (by repeat' (first | exact trivial | exact rfl | exact ren_get rfl | refine And.intro ?_ ?_))) ?_
      repeat' (first | (refine fv_sl ?_) | (refine fh_ob ?_) | ((refine o_app rfl rfl rfl rfl rfl rfl rfl rfl rfl rfl rfl (by omega) (by omega) ?_)) | refine o1 ?_ | refine o2 ?_ | refine k1 ?_ | refine k2 ?_ | refine k3 ?_ | refine k8 ?_ | refine And.intro ?_ ?_ | (intro h; first | exact Bool.noConfusion h | exact nz _ h | exact nl h | (simp at h; done) | (simp at h; first | (exfalso; omega) | skip) | skip) | refine eqv_len_map ?_ | refine eqv_wrap (by omega) (by omega) ?_ | fail)
      refine ⟨i + 1, ⟨by omega, all_lt_succ hall (by rw [hsz, if_neg (by omega)])⟩, by omega, ?_⟩
      rw [hA, hC, sl_app, sl_app, ob_app, ob_app]
      exact back [0, 1, 2, 8, 6] rfl rfl (by repeat' (first | exact trivial | exact rfl | refine And.intro ?_ ?_)) (by repeat' (first | exact trivial | exact rfl | refine And.intro ?_ ?_))
    · obtain ⟨e1, e2⟩ := hbad hb
      rw [e1, e2]
      repeat' (first | (refine fh_ob ?_) | ((change vcFun _ _ _ _ _; refine call_frz rfl (by repeat' (first | trivial | refine And.intro ?_ ?_ | (show 0 + _ ≤ List.length _; simp))) ALeL.refl hsp ?_; rintro _ rfl)) | refine o1 ?_ | refine o2 ?_ | refine k1 ?_ | refine k2 ?_ | refine k3 ?_ | refine k4 ?_ | refine k6 ?_ | refine k7 ?_ | refine And.intro ?_ ?_ | (intro h; first | exact Bool.noConfusion h | exact nz _ h | exact nl h | (simp at h; done) | (simp at h; first | (exfalso; omega) | skip) | skip) | refine eqv_len_map ?_ | fail)
      all_goals
        change retOk _ _ _ _; refine ret_pure rfl (by repeat' (first | exact True.intro | refine And.intro ?_ ?_)) ?_
        exact ⟨ALe.tup ⟨ALe.agg le_zeroM, ALe.refl, trivial⟩⟩
  · obtain rfl : i = x.exams.length := by omega
    obtain ⟨e1, e2, h24⟩ := good_build h0 hall
    rw [e1, e2, rowsA_all]
    have hle := le_rowsC (x := x)
    generalize rowsC x x.exams.length = CR at *
    have hSl : (setsX x).length = x.exams.length := List.length_map _
    have hSat : ∀ (i : Nat) A, (setsX x)[i]? = some A → ∃ e, x.exams[i]? = some e ∧ A.length ≤ 24 ∧ (∀ s ∈ A, ∃ t, x.sits[s.sit]? = some t) ∧ ∀ (j k : Nat) p q, A[j]? = some p → A[k]? = some q → p.sit = q.sit → p.room = q.room → j = k := fun i A hA => by
      unfold setsX at hA
      rw [List.getElem?_map] at hA
      obtain ⟨e, he, rfl⟩ := Option.map_eq_some_iff.1 hA
      exact ⟨e, he, h24 e (List.mem_of_getElem? he), fun s hs => seats_sit hs, fun j k p q h1 h2 => seats_uniq h1 h2⟩
    refine forceH_in ?_
    refine ghost_seq (Γ' := [(1, .ptr 0 8 0 0), (2, .ptr 1 4 0 0), (3, vint .i64 0), (5, .ptr 2 4 0 0), (6, .pv (.sl 1 ((setsX x).map seatsRow))), (7, vint .i64 x.exams.length)]) (H' := [some ⟨33, 8, false, .box (pvs x.cells)⟩, some ⟨51, 4, false, .box (pvs zeroM)⟩, some ⟨51, 4, false, .box [slP 3 1 CR, nilA, nilA, vint .i64 7]⟩, obP 73 1 CR])
      (Ghost.sl (s := 6) (id := 4) rfl rfl fun H' hl hH => back [0, 1, 2, 3] rfl rfl (And.intro (hH 0 (by decide)) (And.intro (hH 1 (by decide)) (kept_bx ren_m0 (hH 2 (by decide)) (kept_ob (hH 3 (by decide)) trivial)))) (by repeat' (first | exact trivial | exact rfl | refine And.intro ?_ ?_))) ?_
    refine ghost_seq (Γ' := [(1, .ptr 0 8 0 0), (2, .ptr 1 4 0 0), (3, vint .i64 0), (5, .ptr 2 4 0 0), (6, .pv (.sl 1 ((setsX x).map seatsRow))), (7, vint .i64 x.exams.length)]) (H' := [some ⟨33, 8, false, .box (pvs x.cells)⟩, some ⟨51, 4, false, .box (pvs zeroM)⟩, some ⟨51, 4, false, .box [.pv (.sl 1 CR), nilA, nilA, vint .i64 7]⟩])
      (Ghost.shut_sl (i := 2) (c := 0) (id := 3) rfl rfl rfl (by decide) fun H' hl h2 hH => back [0, 1, 2] rfl rfl (And.intro (hH 0 (by decide) (by decide)) (And.intro (hH 1 (by decide) (by decide)) (And.intro h2 trivial))) (by repeat' (first | exact trivial | exact rfl | refine And.intro ?_ ?_))) ?_
    repeat' (first | refine o1 ?_ | refine o2 ?_ | refine k1 ?_ | refine k2 ?_ | refine k3 ?_ | refine k4 ?_ | refine k8 ?_ | refine And.intro ?_ ?_ | (intro h; first | exact Bool.noConfusion h | exact nz _ h | exact nl h | (simp at h; done) | (simp at h; first | (exfalso; omega) | skip) | skip) | refine eqv_len_map ?_ | fail)
    refine loop_for (fun u : Nat => [(1, .ptr 0 8 0 0), (2, .ptr 1 4 0 0), (3, vint .i64 0), (5, .ptr 2 4 0 0), (6, .pv (.sl 1 ((setsX x).map seatsRow))), (13, vint .i64 u)]) (fun u => [some ⟨33, 8, false, .box (pvs x.cells)⟩, some ⟨51, 4, false, .box (pvs zeroM)⟩, some ⟨51, 4, false, .box [.pv (.sl 1 CR), slP 3 4 ((prsU (setsX x) (entX x) u).map Pair.row), nilA, vint .i64 7]⟩, obP 116 4 ((prsU (setsX x) (entX x) u).map Pair.row)]) (fun u => u ≤ 7) (fun u => 7 - u) 0 (by omega) ?_ ?_
    · exact back [0, 1, 2, 3] rfl rfl (by repeat' (first | exact trivial | exact rfl | refine kept_bx ren_m1 rfl ?_ | refine And.intro ?_ ?_)) (by repeat' (first | exact trivial | exact rfl | refine And.intro ?_ ?_))
    intro u hu
    have lu := prsU_len (S := setsX x) (E := entX x) (u := u)
    have hSS : (setsX x).length * (setsX x).length ≤ 6 * 6 := Nat.mul_le_mul (by omega) (by omega)
    have hSU : u * ((setsX x).length * (setsX x).length) ≤ 7 * (6 * 6) := Nat.mul_le_mul hu hSS
    rcases Nat.lt_or_ge u 7 with hu7 | hu7
    · repeat' (first | (refine fh_ob ?_) | refine o1 ?_ | refine o2 ?_ | refine k1 ?_ | refine k2 ?_ | refine k3 ?_ | refine k4 ?_ | refine k6 ?_ | refine And.intro ?_ ?_ | (intro h; first | exact Bool.noConfusion h | exact nz _ h | exact nl h | (simp at h; done) | (simp at h; first | (exfalso; omega) | skip) | skip) | fail)
      refine loop_for (fun i : Nat => [(1, .ptr 0 8 0 0), (2, .ptr 1 4 0 0), (3, vint .i64 0), (5, .ptr 2 4 0 0), (6, .pv (.sl 1 ((setsX x).map seatsRow))), (13, vint .i64 u), (14, vint .i64 i)]) (fun i => [some ⟨33, 8, false, .box (pvs x.cells)⟩, some ⟨51, 4, false, .box (pvs zeroM)⟩, some ⟨51, 4, false, .box [.pv (.sl 1 CR), slP 3 4 ((prsUi (setsX x) (entX x) u i).map Pair.row), nilA, vint .i64 7]⟩, obP 116 4 ((prsUi (setsX x) (entX x) u i).map Pair.row)]) (fun i => i ≤ (setsX x).length) (fun i => (setsX x).length - i) 0 (Nat.zero_le _) ?_ ?_
      · rw [prsUi_zero]
        exact back [0, 1, 2, 3] rfl rfl (by repeat' (first | exact trivial | exact rfl | refine kept_ob rfl ?_ | refine kept_bx ren_m1 rfl ?_ | refine And.intro ?_ ?_)) (by repeat' (first | exact trivial | exact rfl | refine And.intro ?_ ?_))
      intro i hi
      rcases Nat.lt_or_ge i (setsX x).length with hil | hig
      · repeat' (first | (refine fh_ob ?_) | refine o1 ?_ | refine o2 ?_ | refine k1 ?_ | refine k2 ?_ | refine k3 ?_ | refine k4 ?_ | refine k6 ?_ | refine And.intro ?_ ?_ | (intro h; first | exact Bool.noConfusion h | exact nz _ h | exact nl h | (simp at h; done) | (simp at h; first | (exfalso; omega) | skip) | skip) | refine eqv_len_map ?_ | refine eqv_wrap (by omega) (by omega) ?_ | fail)
        refine loop_for (fun k : Nat => [(1, .ptr 0 8 0 0), (2, .ptr 1 4 0 0), (3, vint .i64 0), (5, .ptr 2 4 0 0), (6, .pv (.sl 1 ((setsX x).map seatsRow))), (13, vint .i64 u), (14, vint .i64 i), (15, vint .i64 k)]) (fun k => [some ⟨33, 8, false, .box (pvs x.cells)⟩, some ⟨51, 4, false, .box (pvs zeroM)⟩, some ⟨51, 4, false, .box [.pv (.sl 1 CR), slP 3 4 ((prsUk (setsX x) (entX x) u i k).map Pair.row), nilA, vint .i64 7]⟩, obP 116 4 ((prsUk (setsX x) (entX x) u i k).map Pair.row)]) (fun k => i + 1 ≤ k ∧ k ≤ (setsX x).length) (fun k => (setsX x).length - k) (i + 1) ⟨Nat.le_refl _, hil⟩ ?_ ?_
        · rw [prsUk_begin]
          exact back [0, 1, 2, 3] rfl rfl (by repeat' (first | exact trivial | exact rfl | refine kept_ob rfl ?_ | refine kept_bx ren_m1 rfl ?_ | refine And.intro ?_ ?_)) (by repeat' (first | exact trivial | exact rfl | refine And.intro ?_ ?_))
        intro k ⟨hk1, hk2⟩
        have lk := prsUk_len (S := setsX x) (E := entX x) (u := u) (i := i) (k := k) (by omega) (by omega)
        have hUU : (u + 1) * ((setsX x).length * (setsX x).length) ≤ 8 * (6 * 6) := Nat.mul_le_mul (by omega) hSS
        rcases Nat.lt_or_ge k (setsX x).length with hkl | hkg
        · obtain ⟨A, hA⟩ := getE hil
          obtain ⟨Bk, hBk⟩ := getE hkl
          obtain ⟨e, he, hAl, hsA, -⟩ := hSat i A hA
          obtain ⟨f, hf, hBl, hsB, -⟩ := hSat k Bk hBk
          have hpo : ((tabS (entX x) u i k A Bk).any fun n => n != 0) = true → (prsUk (setsX x) (entX x) u i (k + 1)).map Pair.row = (prsUk (setsX x) (entX x) u i k).map Pair.row ++ [Pair.row ⟨i, k, u, tabS (entX x) u i k A Bk⟩] := fun h => by
            rw [prsUk_some (p := ⟨i, k, u, tabS (entX x) u i k A Bk⟩) (by unfold pairS; rw [hA, hBk]; exact if_pos ⟨by omega, h⟩), map_snoc]
          have hpn : ((tabS (entX x) u i k A Bk).any fun n => n != 0) = false → (prsUk (setsX x) (entX x) u i (k + 1)).map Pair.row = (prsUk (setsX x) (entX x) u i k).map Pair.row := fun h => by
            rw [prsUk_none (by unfold pairS; rw [hA, hBk]; exact if_neg fun q => by rw [h] at q; cases q.2)]
          have lPR : ((prsUk (setsX x) (entX x) u i k).map Pair.row).length ≤ 1000 := by rw [List.length_map]; omega
          generalize hPR : (prsUk (setsX x) (entX x) u i k).map Pair.row = PR at *
          repeat' (first | (refine fh_ob ?_) | refine o1 ?_ | refine o2 ?_ | refine k1 ?_ | refine k2 ?_ | refine k3 ?_ | refine k4 ?_ | refine k6 ?_ | refine And.intro ?_ ?_ | (intro h; first | exact Bool.noConfusion h | exact nz _ h | exact nl h | (simp at h; done) | (simp at h; first | (exfalso; omega) | skip) | skip) | exact (by kernel_rfl : drawOk _ _ = true) | refine eqv_len_map ?_ | fail)
          refine loop_for (fun a : Nat => [(1, .ptr 0 8 0 0), (2, .ptr 1 4 0 0), (3, vint .i64 0), (5, .ptr 2 4 0 0), (6, .pv (.sl 1 ((setsX x).map seatsRow))), (13, vint .i64 u), (14, vint .i64 i), (15, vint .i64 k), (16, .ptr 4 4 0 0), (17, vbool ((gr (rowS (entX x) u i k A Bk) a).any fun n => n != 0)), (18, vint .i64 a)]) (fun a => [some ⟨33, 8, false, .box (pvs x.cells)⟩, some ⟨51, 4, false, .box (pvs zeroM)⟩, some ⟨51, 4, false, .box [.pv (.sl 1 CR), slP 3 4 PR, nilA, vint .i64 7]⟩, obP 116 4 PR, some ⟨116, 4, false, .box [vint .i64 i, vint .i64 k, vint .i64 u, slP 5 1 ((gr (rowS (entX x) u i k A Bk) a).map fun n => [ei n])]⟩, obP 3 1 ((gr (rowS (entX x) u i k A Bk) a).map fun n => [ei n])]) (fun a => a ≤ A.length) (fun a => A.length - a) 0 (Nat.zero_le _) ?_ ?_
          · exact back [0, 1, 2, 3, 4, 5] rfl rfl (by repeat' (first | exact trivial | exact rfl | refine kept_ob rfl ?_ | refine kept_bx ren_m1 rfl ?_ | refine kept_bx ren_bx3 rfl ?_ | refine And.intro ?_ ?_)) (by repeat' (first | exact trivial | exact rfl | refine And.intro ?_ ?_))
          intro a ha
          have htl := gr_len (F := rowS (entX x) u i k A Bk) (m := Bk.length) (fun i => rowS_len) a
          have htb : a * Bk.length ≤ 24 * 24 := Nat.mul_le_mul (by omega) hBl
          rcases Nat.lt_or_ge a A.length with hal | hag
          · obtain ⟨s, hs⟩ := getE hal
            obtain ⟨ss, hss⟩ := hsA s (List.mem_of_getElem? hs)
            repeat' (first | (refine fh_ob ?_) | (refine idx_sl (k := i) (at_map hA) rfl ?_) | refine o1 ?_ | refine o2 ?_ | refine k1 ?_ | refine k2 ?_ | refine k3 ?_ | refine k4 ?_ | refine k6 ?_ | refine And.intro ?_ ?_ | (intro h; first | exact Bool.noConfusion h | exact nz _ h | exact nl h | (simp at h; done) | (simp at h; first | (exfalso; omega) | skip) | skip) | refine eqv_len_map ?_ | fail)
            refine loop_for (fun b : Nat => [(1, .ptr 0 8 0 0), (2, .ptr 1 4 0 0), (3, vint .i64 0), (5, .ptr 2 4 0 0), (6, .pv (.sl 1 ((setsX x).map seatsRow))), (13, vint .i64 u), (14, vint .i64 i), (15, vint .i64 k), (16, .ptr 4 4 0 0), (17, vbool ((gr (rowS (entX x) u i k A Bk) a ++ (rowS (entX x) u i k A Bk a).take b).any fun n => n != 0)), (18, vint .i64 a), (19, vint .i64 b)]) (fun b => [some ⟨33, 8, false, .box (pvs x.cells)⟩, some ⟨51, 4, false, .box (pvs zeroM)⟩, some ⟨51, 4, false, .box [.pv (.sl 1 CR), slP 3 4 PR, nilA, vint .i64 7]⟩, obP 116 4 PR, some ⟨116, 4, false, .box [vint .i64 i, vint .i64 k, vint .i64 u, slP 5 1 ((gr (rowS (entX x) u i k A Bk) a ++ (rowS (entX x) u i k A Bk a).take b).map fun n => [ei n])]⟩, obP 3 1 ((gr (rowS (entX x) u i k A Bk) a ++ (rowS (entX x) u i k A Bk a).take b).map fun n => [ei n])]) (fun b => b ≤ Bk.length) (fun b => Bk.length - b) 0 (Nat.zero_le _) ?_ ?_
            · rw [gr_none]
              exact back [0, 1, 2, 3, 4, 5] rfl rfl (by repeat' (first | exact trivial | exact rfl | refine kept_ob rfl ?_ | refine kept_bx ren_m1 rfl ?_ | refine kept_bx ren_bx3 rfl ?_ | refine And.intro ?_ ?_)) (by repeat' (first | exact trivial | exact rfl | refine And.intro ?_ ?_))
            intro b hb
            have hrl := rowS_len (E := entX x) (u := u) (i := i) (k := k) (A := A) (B := Bk) (a := a)
            have htk : ((rowS (entX x) u i k A Bk a).take b).length ≤ 24 := Nat.le_trans (List.length_take_le' ..) (by omega)
            have htt : (gr (rowS (entX x) u i k A Bk) a ++ (rowS (entX x) u i k A Bk a).take b).length ≤ 1000 := by rw [List.length_append]; omega
            rcases Nat.lt_or_ge b Bk.length with hbl | hbg
            · obtain ⟨t, ht⟩ := getE hbl
              obtain ⟨tt, htt2⟩ := hsB t (List.mem_of_getElem? ht)
              have hnx := gr_next (F := rowS (entX x) u i k A Bk) (rowS_get (E := entX x) (u := u) (i := i) (k := k) hs ht)
              have hcall : PCall Tryz.prog 50 [ag x.cells, vint .i64 u, vint .i64 i, vint .i64 k, ag s.row, ag t.row] (fun r => r = vint .i64 (entX x u i k s t)) := by
                rw [entX_at hss htt2 he hf]
                exact c_rentry x u i k s t ss tt e f h0 hss htt2 he hf
              have hlo := (entX_lo (u := u) (i := i) (k := k) (a := s) (b := t) h0).1
              generalize entX x u i k s t = n at *
              have hnz : (n != 0) = decide (n > 0) := by
                by_cases h : n = 0
                · subst h; rfl
                · rw [show (n != 0) = true by simp [h], decide_eq_true (show n > 0 by omega)]
              generalize gr (rowS (entX x) u i k A Bk) a ++ (rowS (entX x) u i k A Bk a).take b = T0 at *
              generalize hbb : (T0.any fun n => n != 0) = bb at *
              cases bb
              all_goals
                repeat' (first | (refine fv_sl ?_) | (refine fh_ob ?_) | (refine idx_sl (k := i) (at_map hA) rfl ?_) | (refine idx_sl (k := k) (at_map hBk) rfl ?_) | (refine idx_sl (k := a) (at_map hs) rfl ?_) | (refine idx_sl (k := b) (at_map ht) rfl ?_) | ((refine o_app rfl rfl rfl rfl rfl rfl rfl rfl rfl rfl rfl (by rw [List.length_map]; omega) (by rw [List.length_map]; omega) ?_)) | refine o1 ?_ | refine o2 ?_ | refine k1 ?_ | refine k2 ?_ | refine k3 ?_ | refine k4 ?_ | refine k6 ?_ | refine And.intro ?_ ?_ | refine o3 ?_ | refine o4 ?_ | (intro h; first | exact Bool.noConfusion h | exact nz _ h | exact nl h | (simp at h; done) | (simp at h; first | (exfalso; omega) | skip) | skip) | exact (by kernel_rfl : drawOk _ _ = true) | refine eqv_len_map ?_ | refine eqv_wrap (by omega) (by omega) ?_ | (change vcFunD _ _ _ _ _; refine callD_eq rfl (by repeat' (first | trivial | refine And.intro ?_ ?_ | (show 0 + _ ≤ List.length _; simp))) ALeL.refl (hcall) rfl ?_) | fail)
              all_goals
                refine ⟨b + 1, by omega, by omega, ?_⟩
                rw [hnx, any_snoc, hbb, hnz, map_snoc, sl_app, ob_app]
                exact back [0, 1, 2, 3, 4, 7] rfl rfl (by repeat' (first | exact trivial | exact rfl | refine kept_ob rfl ?_ | refine kept_bx ren_m1 rfl ?_ | refine And.intro ?_ ?_)) (by repeat' (first | exact trivial | exact rfl | refine And.intro ?_ ?_))
            obtain rfl : b = Bk.length := by omega
            repeat' (first | (refine fh_ob ?_) | (refine idx_sl (k := k) (at_map hBk) rfl ?_) | refine o1 ?_ | refine o2 ?_ | refine k1 ?_ | refine k2 ?_ | refine k3 ?_ | refine k8 ?_ | refine And.intro ?_ ?_ | (intro h; first | exact Bool.noConfusion h | exact nz _ h | exact nl h | (simp at h; done) | (simp at h; first | (exfalso; omega) | skip) | skip) | refine eqv_len_map ?_ | refine eqv_wrap (by omega) (by omega) ?_ | fail)
            refine ⟨a + 1, by omega, by omega, ?_⟩
            rw [gr_all hrl]
            exact back [0, 1, 2, 3, 4, 5] rfl rfl (by repeat' (first | exact trivial | exact rfl | refine kept_ob rfl ?_ | refine kept_bx ren_m1 rfl ?_ | refine kept_bx ren_bx3 rfl ?_ | refine And.intro ?_ ?_)) (by repeat' (first | exact trivial | exact rfl | refine And.intro ?_ ?_))
          obtain rfl : a = A.length := by omega
          refine forceH_in ?_
          change xCode _ _ _ _ _ _ [(1, .ptr 0 8 0 0), (2, .ptr 1 4 0 0), (3, vint .i64 0), (5, .ptr 2 4 0 0), (6, .pv (.sl 1 ((setsX x).map seatsRow))), (13, vint .i64 u), (14, vint .i64 i), (15, vint .i64 k), (16, .ptr 4 4 0 0), (17, vbool ((tabS (entX x) u i k A Bk).any fun n => n != 0)), (18, vint .i64 A.length)] [some ⟨33, 8, false, .box (pvs x.cells)⟩, some ⟨51, 4, false, .box (pvs zeroM)⟩, some ⟨51, 4, false, .box [.pv (.sl 1 CR), slP 3 4 PR, nilA, vint .i64 7]⟩, obP 116 4 PR, some ⟨116, 4, false, .box [vint .i64 i, vint .i64 k, vint .i64 u, slP 5 1 ((tabS (entX x) u i k A Bk).map fun n => [ei n])]⟩, obP 3 1 ((tabS (entX x) u i k A Bk).map fun n => [ei n])]
          generalize hQ : ((tabS (entX x) u i k A Bk).any fun n => n != 0) = g at *
          generalize tabS (entX x) u i k A Bk = TB at *
          refine ghost_seq (Γ' := [(1, .ptr 0 8 0 0), (2, .ptr 1 4 0 0), (3, vint .i64 0), (5, .ptr 2 4 0 0), (6, .pv (.sl 1 ((setsX x).map seatsRow))), (13, vint .i64 u), (14, vint .i64 i), (15, vint .i64 k), (16, .ptr 4 4 0 0), (17, vbool g), (18, vint .i64 A.length)]) (H' := [some ⟨33, 8, false, .box (pvs x.cells)⟩, some ⟨51, 4, false, .box (pvs zeroM)⟩, some ⟨51, 4, false, .box [.pv (.sl 1 CR), slP 3 4 PR, nilA, vint .i64 7]⟩, obP 116 4 PR, some ⟨116, 4, false, .box [vint .i64 i, vint .i64 k, vint .i64 u, .pv (.sl 1 ((TB).map fun n => [ei n]))]⟩])
            (Ghost.shut_sl (i := 4) (c := 3) (id := 5) rfl rfl rfl (by decide) fun H' hl h2 hH => back [0, 1, 2, 3, 4] rfl rfl (And.intro (hH 0 (by decide) (by decide)) (And.intro (hH 1 (by decide) (by decide)) (kept_bx ren_m1 (hH 2 (by decide) (by decide)) (kept_ob (hH 3 (by decide) (by decide)) (And.intro h2 trivial))))) (by repeat' (first | exact trivial | exact rfl | refine And.intro ?_ ?_))) ?_
          cases g
          · repeat' (first | (refine idx_sl (k := i) (at_map hA) rfl ?_) | refine o1 ?_ | refine o2 ?_ | refine k1 ?_ | refine k2 ?_ | refine k3 ?_ | refine k6 ?_ | refine k8 ?_ | refine And.intro ?_ ?_ | (intro h; first | exact Bool.noConfusion h | exact nz _ h | exact nl h | (simp at h; done) | (simp at h; first | (exfalso; omega) | skip) | skip) | refine eqv_len_map ?_ | refine eqv_wrap (by omega) (by omega) ?_ | fail)
            refine ⟨k + 1, ⟨by omega, by omega⟩, by omega, ?_⟩
            rw [hpn rfl]
            exact back [0, 1, 2, 3] rfl rfl (by repeat' (first | exact trivial | exact rfl | refine kept_ob rfl ?_ | refine kept_bx ren_m1 rfl ?_ | refine And.intro ?_ ?_)) (by repeat' (first | exact trivial | exact rfl | refine And.intro ?_ ?_))
          · repeat' (first | (refine fv_sl ?_) | (refine fh_ob ?_) | (refine idx_sl (k := i) (at_map hA) rfl ?_) | ((refine o_app rfl rfl rfl rfl rfl rfl rfl rfl rfl rfl rfl (by omega) (by omega) ?_)) | refine o1 ?_ | refine o2 ?_ | refine k1 ?_ | refine k2 ?_ | refine k3 ?_ | refine k8 ?_ | refine And.intro ?_ ?_ | (intro h; first | exact Bool.noConfusion h | exact nz _ h | exact nl h | (simp at h; done) | (simp at h; first | (exfalso; omega) | skip) | skip) | refine eqv_len_map ?_ | refine eqv_wrap (by omega) (by omega) ?_ | fail)
            refine ⟨k + 1, ⟨by omega, by omega⟩, by omega, ?_⟩
            rw [hpo rfl, sl_app, ob_app]
            exact back [0, 1, 2, 6] rfl rfl (by repeat' (first | exact trivial | exact rfl | refine And.intro ?_ ?_)) (by repeat' (first | exact trivial | exact rfl | refine And.intro ?_ ?_))
        · obtain rfl : k = (setsX x).length := by omega
          repeat' (first | (refine fh_ob ?_) | refine o1 ?_ | refine o2 ?_ | refine k1 ?_ | refine k2 ?_ | refine k3 ?_ | refine k8 ?_ | refine And.intro ?_ ?_ | (intro h; first | exact Bool.noConfusion h | exact nz _ h | exact nl h | (simp at h; done) | (simp at h; first | (exfalso; omega) | skip) | skip) | refine eqv_len_map ?_ | refine eqv_wrap (by omega) (by omega) ?_ | fail)
          refine ⟨i + 1, by omega, by omega, ?_⟩
          rw [prsUk_all]
          exact back [0, 1, 2, 3] rfl rfl (by repeat' (first | exact trivial | exact rfl | refine kept_ob rfl ?_ | refine kept_bx ren_m1 rfl ?_ | refine And.intro ?_ ?_)) (by repeat' (first | exact trivial | exact rfl | refine And.intro ?_ ?_))
      · obtain rfl : i = (setsX x).length := by omega
        repeat' (first | (refine fh_ob ?_) | refine o1 ?_ | refine o2 ?_ | refine k1 ?_ | refine k2 ?_ | refine k3 ?_ | refine k8 ?_ | refine And.intro ?_ ?_ | (intro h; first | exact Bool.noConfusion h | exact nz _ h | exact nl h | (simp at h; done) | (simp at h; first | (exfalso; omega) | skip) | skip) | refine eqv_len_map ?_ | refine eqv_wrap (by omega) (by omega) ?_ | fail)
        refine ⟨u + 1, by omega, by omega, ?_⟩
        rw [prsUi_all]
        exact back [0, 1, 2, 3] rfl rfl (by repeat' (first | exact trivial | exact rfl | refine kept_ob rfl ?_ | refine kept_bx ren_m1 rfl ?_ | refine And.intro ?_ ?_)) (by repeat' (first | exact trivial | exact rfl | refine And.intro ?_ ?_))
    · obtain rfl : u = 7 := by omega
      have hpl : (prsU (setsX x) (entX x) 7).length ≤ 4000 := by omega
      refine forceH_in ?_
      generalize prsU (setsX x) (entX x) 7 = P0 at *
      refine ghost_seq (Γ' := [(1, .ptr 0 8 0 0), (2, .ptr 1 4 0 0), (3, vint .i64 0), (5, .ptr 2 4 0 0), (6, .pv (.sl 1 ((setsX x).map seatsRow))), (13, vint .i64 7)]) (H' := [some ⟨33, 8, false, .box (pvs x.cells)⟩, some ⟨51, 4, false, .box (pvs zeroM)⟩, some ⟨51, 4, false, .box [.pv (.sl 1 CR), .pv (.sl 4 (P0.map Pair.row)), nilA, vint .i64 7]⟩])
        (Ghost.shut_sl (i := 2) (c := 1) (id := 3) rfl rfl rfl (by decide) fun H' hl h2 hH => back [0, 1, 2] rfl rfl (And.intro (hH 0 (by decide) (by decide)) (And.intro (hH 1 (by decide) (by decide)) (And.intro h2 trivial))) (by repeat' (first | exact trivial | exact rfl | refine And.intro ?_ ?_))) ?_
      repeat' (first | refine o1 ?_ | refine o2 ?_ | refine k1 ?_ | refine k2 ?_ | refine k3 ?_ | refine k4 ?_ | refine k8 ?_ | refine And.intro ?_ ?_ | (intro h; first | exact Bool.noConfusion h | exact nz _ h | exact nl h | (simp at h; done) | (simp at h; first | (exfalso; omega) | skip) | skip) | fail)
      refine loop_for (fun a : Nat => [(1, .ptr 0 8 0 0), (2, .ptr 1 4 0 0), (3, vint .i64 0), (5, .ptr 2 4 0 0), (6, .pv (.sl 1 ((setsX x).map seatsRow))), (21, vint .i64 a)]) (fun a => [some ⟨33, 8, false, .box (pvs x.cells)⟩, some ⟨51, 4, false, .box (pvs zeroM)⟩, some ⟨51, 4, false, .box [.pv (.sl 1 CR), .pv (.sl 4 (P0.map Pair.row)), slP 3 4 ((cntS (setsX x) (wtX x) (mostX x) x.rooms.length a).map Count.row), vint .i64 7]⟩, obP 120 4 ((cntS (setsX x) (wtX x) (mostX x) x.rooms.length a).map Count.row)]) (fun a => a ≤ x.sits.length) (fun a => x.sits.length - a) 0 (Nat.zero_le _) ?_ ?_
      · exact back [0, 1, 2, 3] rfl rfl (by repeat' (first | exact trivial | exact rfl | refine kept_bx ren_m2 rfl ?_ | refine And.intro ?_ ?_)) (by repeat' (first | exact trivial | exact rfl | refine And.intro ?_ ?_))
      intro a ha
      have hsn := hl.sits
      have hrn := hl.rooms
      have ln := cntS_len (S := setsX x) (W := wtX x) (most := mostX x) (R := x.rooms.length) (s := a)
      have lb : a * x.rooms.length ≤ 24 * 16 := Nat.mul_le_mul (by omega) hrn
      rcases Nat.lt_or_ge a x.sits.length with hal | hag
      · repeat' (first | (refine fh_ob ?_) | refine o1 ?_ | refine o2 ?_ | refine k1 ?_ | refine k2 ?_ | refine k3 ?_ | refine k4 ?_ | refine k6 ?_ | refine And.intro ?_ ?_ | (intro h; first | exact Bool.noConfusion h | exact nz _ h | exact nl h | (simp at h; done) | (simp at h; first | (exfalso; omega) | skip) | skip) | refine eqv_len_map ?_ | fail)
        refine loop_for (fun c : Nat => [(1, .ptr 0 8 0 0), (2, .ptr 1 4 0 0), (3, vint .i64 0), (5, .ptr 2 4 0 0), (6, .pv (.sl 1 ((setsX x).map seatsRow))), (21, vint .i64 a), (22, vint .i64 c)]) (fun c => [some ⟨33, 8, false, .box (pvs x.cells)⟩, some ⟨51, 4, false, .box (pvs zeroM)⟩, some ⟨51, 4, false, .box [.pv (.sl 1 CR), .pv (.sl 4 (P0.map Pair.row)), slP 3 4 ((cntS (setsX x) (wtX x) (mostX x) x.rooms.length a ++ cntI (setsX x) (wtX x) (mostX x) a c).map Count.row), vint .i64 7]⟩, obP 120 4 ((cntS (setsX x) (wtX x) (mostX x) x.rooms.length a ++ cntI (setsX x) (wtX x) (mostX x) a c).map Count.row)]) (fun c => c ≤ x.rooms.length) (fun c => x.rooms.length - c) 0 (Nat.zero_le _) ?_ ?_
        · rw [show cntI (setsX x) (wtX x) (mostX x) a 0 = [] from rfl, List.append_nil]
          exact back [0, 1, 2, 3] rfl rfl (by repeat' (first | exact trivial | exact rfl | refine kept_ob rfl ?_ | refine kept_bx ren_m2 rfl ?_ | refine And.intro ?_ ?_)) (by repeat' (first | exact trivial | exact rfl | refine And.intro ?_ ?_))
        intro c hc
        have li := cntI_len (S := setsX x) (W := wtX x) (most := mostX x) (s := a) (m := c)
        have lt2 : (cntS (setsX x) (wtX x) (mostX x) x.rooms.length a ++ cntI (setsX x) (wtX x) (mostX x) a c).length ≤ 1000 := by rw [List.length_append]; omega
        rcases Nat.lt_or_ge c x.rooms.length with hcl | hcg
        · obtain ⟨qr, hqr⟩ := getE hcl
          have hm : mostX x c = qr.seats := by unfold mostX; rw [hqr]
          have hco : 1 < (loadsS (setsX x) (wtX x) a c (setsX x).length).length → (cntS (setsX x) (wtX x) (mostX x) x.rooms.length a ++ cntI (setsX x) (wtX x) (mostX x) a (c + 1)).map Count.row = (cntS (setsX x) (wtX x) (mostX x) x.rooms.length a ++ cntI (setsX x) (wtX x) (mostX x) a c).map Count.row ++ [Count.row ⟨1, loadsS (setsX x) (wtX x) a c (setsX x).length, qr.seats, 1099511627776⟩] := fun h => by
            rw [cntI_some (show countS (setsX x) (wtX x) (mostX x) a c = some _ from if_pos h), ← List.append_assoc, map_snoc, hm]
          have hcn : ¬ 1 < (loadsS (setsX x) (wtX x) a c (setsX x).length).length → (cntS (setsX x) (wtX x) (mostX x) x.rooms.length a ++ cntI (setsX x) (wtX x) (mostX x) a (c + 1)).map Count.row = (cntS (setsX x) (wtX x) (mostX x) x.rooms.length a ++ cntI (setsX x) (wtX x) (mostX x) a c).map Count.row := fun h => by
            rw [cntI_none (show countS (setsX x) (wtX x) (mostX x) a c = none from if_neg h)]
          have lNR : ((cntS (setsX x) (wtX x) (mostX x) x.rooms.length a ++ cntI (setsX x) (wtX x) (mostX x) a c).map Count.row).length ≤ 1000 := by rw [List.length_map]; exact lt2
          generalize (cntS (setsX x) (wtX x) (mostX x) x.rooms.length a ++ cntI (setsX x) (wtX x) (mostX x) a c).map Count.row = NR at *
          repeat' (first | (refine fh_ob ?_) | (refine idx_sl (k := c) (at_map hqr) rfl ?_) | refine o1 ?_ | refine o2 ?_ | refine k1 ?_ | refine k2 ?_ | refine k3 ?_ | refine k4 ?_ | refine k6 ?_ | refine And.intro ?_ ?_ | (intro h; first | exact Bool.noConfusion h | exact nz _ h | exact nl h | (simp at h; done) | (simp at h; first | (exfalso; omega) | skip) | skip) | exact (by kernel_rfl : drawOk _ _ = true) | refine eqv_len_map ?_ | fail)
          refine loop_for (fun i : Nat => [(1, .ptr 0 8 0 0), (2, .ptr 1 4 0 0), (3, vint .i64 0), (5, .ptr 2 4 0 0), (6, .pv (.sl 1 ((setsX x).map seatsRow))), (21, vint .i64 a), (22, vint .i64 c), (23, .ptr 4 4 0 0), (24, vint .i64 i)]) (fun i => [some ⟨33, 8, false, .box (pvs x.cells)⟩, some ⟨51, 4, false, .box (pvs zeroM)⟩, some ⟨51, 4, false, .box [.pv (.sl 1 CR), .pv (.sl 4 (P0.map Pair.row)), slP 3 4 NR, vint .i64 7]⟩, obP 120 4 NR, some ⟨120, 4, false, .box [vint .i64 1, slP 5 3 ((loadsS (setsX x) (wtX x) a c i).map Load.row), vint .i64 qr.seats, vint .i64 1099511627776]⟩, obP 122 3 ((loadsS (setsX x) (wtX x) a c i).map Load.row)]) (fun i => i ≤ (setsX x).length) (fun i => (setsX x).length - i) 0 (Nat.zero_le _) ?_ ?_
          · exact back [0, 1, 2, 3, 4, 5] rfl rfl (by repeat' (first | exact trivial | exact rfl | refine kept_ob rfl ?_ | refine kept_bx ren_m2 rfl ?_ | refine kept_bx ren_bxL rfl ?_ | refine And.intro ?_ ?_)) (by repeat' (first | exact trivial | exact rfl | refine And.intro ?_ ?_))
          intro i hi
          have hll := upto_len (l := setsX x) (f := loadF (wtX x) a c) (n := i)
          rcases Nat.lt_or_ge i (setsX x).length with hil | hig
          · obtain ⟨A, hA⟩ := getE hil
            obtain ⟨e, he, hAl, -, huq⟩ := hSat i A hA
            have hw : wtX x i = e.studs.length := by unfold wtX; rw [he]
            have hSo := loads_all (S := setsX x) (W := wtX x) (s := a) (r := c) hA
            rw [hw] at hSo
            have hp0 : partL A a c i e.studs.length 0 = [] := partL_zero
            generalize hLL : loadsS (setsX x) (wtX x) a c i = L at *
            have hll : L.length ≤ i := by rw [← hLL]; exact hll
            repeat' (first | (refine fh_ob ?_) | refine o1 ?_ | refine o2 ?_ | refine k1 ?_ | refine k2 ?_ | refine k3 ?_ | refine k4 ?_ | refine k6 ?_ | refine And.intro ?_ ?_ | (intro h; first | exact Bool.noConfusion h | exact nz _ h | exact nl h | (simp at h; done) | (simp at h; first | (exfalso; omega) | skip) | skip) | refine eqv_len_map ?_ | fail)
            refine loop_for (fun k : Nat => [(1, .ptr 0 8 0 0), (2, .ptr 1 4 0 0), (3, vint .i64 0), (5, .ptr 2 4 0 0), (6, .pv (.sl 1 ((setsX x).map seatsRow))), (21, vint .i64 a), (22, vint .i64 c), (23, .ptr 4 4 0 0), (24, vint .i64 i), (25, vint .i64 k)]) (fun k => [some ⟨33, 8, false, .box (pvs x.cells)⟩, some ⟨51, 4, false, .box (pvs zeroM)⟩, some ⟨51, 4, false, .box [.pv (.sl 1 CR), .pv (.sl 4 (P0.map Pair.row)), slP 3 4 NR, vint .i64 7]⟩, obP 120 4 NR, some ⟨120, 4, false, .box [vint .i64 1, slP 5 3 ((L ++ partL A a c i e.studs.length k).map Load.row), vint .i64 qr.seats, vint .i64 1099511627776]⟩, obP 122 3 ((L ++ partL A a c i e.studs.length k).map Load.row)]) (fun k => k ≤ A.length) (fun k => A.length - k) 0 (Nat.zero_le _) ?_ ?_
            · rw [hp0, List.append_nil]
              exact back [0, 1, 2, 3, 4, 5] rfl rfl (by repeat' (first | exact trivial | exact rfl | refine kept_ob rfl ?_ | refine kept_bx ren_m2 rfl ?_ | refine kept_bx ren_bxL rfl ?_ | refine And.intro ?_ ?_)) (by repeat' (first | exact trivial | exact rfl | refine And.intro ?_ ?_))
            intro k hk
            have hpl2 := partL_len (A := A) (s := a) (r := c) (i := i) (w := e.studs.length) (k := k)
            rcases Nat.lt_or_ge k A.length with hkl | hkg
            · obtain ⟨q, hq⟩ := getE hkl
              have hyes := partL_yes (s := a) (r := c) (i := i) (w := e.studs.length) hq huq
              have hno := partL_no (s := a) (r := c) (i := i) (w := e.studs.length) hq
              have hlen : (L ++ partL A a c i e.studs.length k).length ≤ 1000 := by rw [List.length_append]; omega
              have hyes2 := fun h => show L ++ partL A a c i e.studs.length (k + 1) = (L ++ partL A a c i e.studs.length k) ++ [⟨i, k, e.studs.length⟩] by rw [hyes h, List.append_assoc]
              have hno2 := fun h => show L ++ partL A a c i e.studs.length (k + 1) = L ++ partL A a c i e.studs.length k by rw [hno h]
              generalize L ++ partL A a c i e.studs.length k = L2 at *
              repeat' (first | (refine fv_sl ?_) | (refine fh_ob ?_) | (refine idx_sl (k := i) (at_map hA) rfl ?_) | (refine idx_sl (k := k) (at_map hq) rfl ?_) | (refine idx_sl (k := i) (at_map he) rfl ?_) | ((refine o_appD rfl rfl rfl rfl rfl rfl rfl rfl rfl rfl rfl (by rw [List.length_map]; omega) (by rw [List.length_map]; omega) ?_)) | refine o1 ?_ | refine o2 ?_ | refine k1 ?_ | refine k2 ?_ | refine k3 ?_ | refine k4 ?_ | refine k6 ?_ | refine And.intro ?_ ?_ | refine o3 ?_ | refine o4 ?_ | (intro h; first | exact Bool.noConfusion h | exact nz _ h | exact nl h | (simp at h; done) | (simp at h; first | (exfalso; omega) | skip) | skip) | exact (by kernel_rfl : drawOk _ _ = true) | refine eqv_len_map ?_ | refine eqv_wrap (by omega) (by omega) ?_ | fail)
              all_goals
                refine ⟨k + 1, by omega, by omega, ?_⟩
                first
                  | (rw [hyes2 (by omega), map_snoc, sl_app, ob_app]; exact back [0, 1, 2, 3, 4, 7] rfl rfl (by repeat' (first | exact trivial | exact rfl | refine kept_ob rfl ?_ | refine kept_bx ren_m2 rfl ?_ | refine And.intro ?_ ?_)) (by repeat' (first | exact trivial | exact rfl | refine And.intro ?_ ?_)))
                  | (rw [hno2 (by omega)]; exact back [0, 1, 2, 3, 4, 5] rfl rfl (by repeat' (first | exact trivial | exact rfl | refine kept_ob rfl ?_ | refine kept_bx ren_m2 rfl ?_ | refine kept_bx ren_bxL rfl ?_ | refine And.intro ?_ ?_)) (by repeat' (first | exact trivial | exact rfl | refine And.intro ?_ ?_)))
            · obtain rfl : k = A.length := by omega
              repeat' (first | (refine fh_ob ?_) | (refine idx_sl (k := i) (at_map hA) rfl ?_) | refine o1 ?_ | refine o2 ?_ | refine k1 ?_ | refine k2 ?_ | refine k3 ?_ | refine k8 ?_ | refine And.intro ?_ ?_ | (intro h; first | exact Bool.noConfusion h | exact nz _ h | exact nl h | (simp at h; done) | (simp at h; first | (exfalso; omega) | skip) | skip) | refine eqv_len_map ?_ | refine eqv_wrap (by omega) (by omega) ?_ | fail)
              refine ⟨i + 1, by omega, by omega, ?_⟩
              rw [hSo]
              exact back [0, 1, 2, 3, 4, 5] rfl rfl (by repeat' (first | exact trivial | exact rfl | refine kept_ob rfl ?_ | refine kept_bx ren_m2 rfl ?_ | refine kept_bx ren_bxL rfl ?_ | refine And.intro ?_ ?_)) (by repeat' (first | exact trivial | exact rfl | refine And.intro ?_ ?_))
          · obtain rfl : i = (setsX x).length := by omega
            have hll : (loadsS (setsX x) (wtX x) a c (setsX x).length).length ≤ (setsX x).length := hll
            generalize loadsS (setsX x) (wtX x) a c (setsX x).length = L at *
            refine forceH_in ?_
            refine ghost_seq (Γ' := [(1, .ptr 0 8 0 0), (2, .ptr 1 4 0 0), (3, vint .i64 0), (5, .ptr 2 4 0 0), (6, .pv (.sl 1 ((setsX x).map seatsRow))), (21, vint .i64 a), (22, vint .i64 c), (23, .ptr 4 4 0 0), (24, vint .i64 (setsX x).length)]) (H' := [some ⟨33, 8, false, .box (pvs x.cells)⟩, some ⟨51, 4, false, .box (pvs zeroM)⟩, some ⟨51, 4, false, .box [.pv (.sl 1 CR), .pv (.sl 4 (P0.map Pair.row)), slP 3 4 NR, vint .i64 7]⟩, obP 120 4 NR, some ⟨120, 4, false, .box [vint .i64 1, .pv (.sl 3 (L.map Load.row)), vint .i64 qr.seats, vint .i64 1099511627776]⟩])
              (Ghost.shut_sl (i := 4) (c := 1) (id := 5) rfl rfl rfl (by decide) fun H' hl h2 hH => back [0, 1, 2, 3, 4] rfl rfl (And.intro (hH 0 (by decide) (by decide)) (And.intro (hH 1 (by decide) (by decide)) (kept_bx ren_m2 (hH 2 (by decide) (by decide)) (kept_ob (hH 3 (by decide) (by decide)) (And.intro h2 trivial))))) (by repeat' (first | exact trivial | exact rfl | refine And.intro ?_ ?_))) ?_
            by_cases hL : 1 < L.length
            · repeat' (first | (refine fv_sl ?_) | (refine fh_ob ?_) | ((refine o_app rfl rfl rfl rfl rfl rfl rfl rfl rfl rfl rfl (by omega) (by omega) ?_)) | refine o1 ?_ | refine o2 ?_ | refine k1 ?_ | refine k2 ?_ | refine k3 ?_ | refine k8 ?_ | refine And.intro ?_ ?_ | (intro h; first | exact Bool.noConfusion h | exact nz _ h | exact nl h | (simp at h; done) | (simp at h; first | (exfalso; omega) | skip) | skip) | refine eqv_len_map ?_ | refine eqv_wrap (by omega) (by omega) ?_ | fail)
              refine ⟨c + 1, by omega, by omega, ?_⟩
              rw [hco hL, sl_app, ob_app]
              exact back [0, 1, 2, 6] rfl rfl (by repeat' (first | exact trivial | exact rfl | refine And.intro ?_ ?_)) (by repeat' (first | exact trivial | exact rfl | refine And.intro ?_ ?_))
            · repeat' (first | refine o1 ?_ | refine o2 ?_ | refine k1 ?_ | refine k2 ?_ | refine k3 ?_ | refine k6 ?_ | refine k8 ?_ | refine And.intro ?_ ?_ | (intro h; first | exact Bool.noConfusion h | exact nz _ h | exact nl h | (simp at h; done) | (simp at h; first | (exfalso; omega) | skip) | skip) | refine eqv_len_map ?_ | refine eqv_wrap (by omega) (by omega) ?_ | fail)
              refine ⟨c + 1, by omega, by omega, ?_⟩
              rw [hcn hL]
              exact back [0, 1, 2, 3] rfl rfl (by repeat' (first | exact trivial | exact rfl | refine kept_ob rfl ?_ | refine kept_bx ren_m2 rfl ?_ | refine And.intro ?_ ?_)) (by repeat' (first | exact trivial | exact rfl | refine And.intro ?_ ?_))
        · obtain rfl : c = x.rooms.length := by omega
          repeat' (first | (refine fh_ob ?_) | refine o1 ?_ | refine o2 ?_ | refine k1 ?_ | refine k2 ?_ | refine k3 ?_ | refine k8 ?_ | refine And.intro ?_ ?_ | (intro h; first | exact Bool.noConfusion h | exact nz _ h | exact nl h | (simp at h; done) | (simp at h; first | (exfalso; omega) | skip) | skip) | refine eqv_len_map ?_ | refine eqv_wrap (by omega) (by omega) ?_ | fail)
          refine ⟨a + 1, by omega, by omega, ?_⟩
          rw [show cntS (setsX x) (wtX x) (mostX x) x.rooms.length (a + 1) = cntS (setsX x) (wtX x) (mostX x) x.rooms.length a ++ cntI (setsX x) (wtX x) (mostX x) a x.rooms.length from gr_succ]
          exact back [0, 1, 2, 3] rfl rfl (by repeat' (first | exact trivial | exact rfl | refine kept_ob rfl ?_ | refine kept_bx ren_m2 rfl ?_ | refine And.intro ?_ ?_)) (by repeat' (first | exact trivial | exact rfl | refine And.intro ?_ ?_))
      · obtain rfl : a = x.sits.length := by omega
        have hnl : (cntS (setsX x) (wtX x) (mostX x) x.rooms.length x.sits.length).length ≤ 800 := by omega
        generalize cntS (setsX x) (wtX x) (mostX x) x.rooms.length x.sits.length = N0 at *
        refine forceH_in ?_
        refine ghost_seq (Γ' := [(1, .ptr 0 8 0 0), (2, .ptr 1 4 0 0), (3, vint .i64 0), (5, .ptr 2 4 0 0), (6, .pv (.sl 1 ((setsX x).map seatsRow))), (21, vint .i64 x.sits.length)]) (H' := [some ⟨33, 8, false, .box (pvs x.cells)⟩, some ⟨51, 4, false, .box (pvs zeroM)⟩, some ⟨51, 4, false, .box [.pv (.sl 1 CR), .pv (.sl 4 (P0.map Pair.row)), .pv (.sl 4 (N0.map Count.row)), vint .i64 7]⟩])
          (Ghost.shut_sl (i := 2) (c := 2) (id := 3) rfl rfl rfl (by decide) fun H' hl h2 hH => back [0, 1, 2] rfl rfl (And.intro (hH 0 (by decide) (by decide)) (And.intro (hH 1 (by decide) (by decide)) (And.intro h2 trivial))) (by repeat' (first | exact trivial | exact rfl | refine And.intro ?_ ?_))) ?_
        repeat' (first | refine o1 ?_ | refine o2 ?_ | refine k1 ?_ | refine k2 ?_ | refine k3 ?_ | refine k6 ?_ | refine k7 ?_ | refine k8 ?_ | refine And.intro ?_ ?_ | (intro h; first | exact Bool.noConfusion h | exact nz _ h | exact nl h | (simp at h; done) | (simp at h; first | (exfalso; omega) | skip) | skip) | refine eqv_len_map ?_ | fail)
        all_goals
          change retOk _ _ _ _; refine ret_pure rfl (by repeat' (first | exact True.intro | refine And.intro ?_ ?_)) ?_
          exact ⟨ALe.tup ⟨ALe.agg ⟨ALe.pv (PLe.sl hle), ALe.refl, ALe.refl, ALe.refl, trivial⟩, ALe.refl, trivial⟩⟩
theorem c_rbuild1 (x : Exams) (h : ¬ examsE x = 0) : PCall Tryz.prog 21 [ag x.cells] (fun a => Leq a (.tup [ag (buildM x).cells, vint .i64 (buildE x)])) := by
  have h1 := c_rexams x
  have e1 : buildE x = examsE x := by unfold buildE; rw [if_pos h]
  have e2 : buildM x = ⟨[], [], [], 0⟩ := by unfold buildM; rw [e1]; exact if_neg h
  rw [e1, e2]
  generalize examsE x = E at *
  refine acall_of tok mixed 254 rfl (fn := Tryz.f21) (c := Tryz.f21.body.getD .skip) (by kernel_rfl) (by kernel_rfl) (by kernel_rfl) rfl 0 rfl ?_
  repeat' (first | refine o1 ?_ | refine o2 ?_ | refine k1 ?_ | refine k2 ?_ | refine k3 ?_ | refine k7 ?_ | refine And.intro ?_ ?_ | (intro h; first | exact Bool.noConfusion h | exact nz _ h | exact nl h | (simp at h; done) | (simp at h; first | (exfalso; omega) | skip) | skip) | exact (by kernel_rfl : drawOk _ _ = true) | (change vcFun _ _ _ _ _; refine call_eq rfl (by repeat' (first | trivial | refine And.intro ?_ ?_ | (show 0 + _ ≤ List.length _; simp))) ALeL.refl (h1) rfl ?_) | fail)
  all_goals first
    | (exfalso; omega)
    | (change retOk _ _ _ _; refine ret_pure rfl (by repeat' (first | exact True.intro | refine And.intro ?_ ?_)) ?_
       exact ⟨ALe.tup ⟨ALe.agg le_zeroM, ALe.refl, trivial⟩⟩)
end Go.Proofs.YtpnghlibmpainaaGreat.Cw

/-
  Contracts: a model equals itself.
-/
namespace Go.Proofs.YtpnghlibmpainaaGreat.Cw
open Go.Cw Go.Proofs
set_option linter.unusedVariables false
set_option maxRecDepth 100000
set_option maxHeartbeats 8000000

theorem c_sameInts17 (l : List Int) (hl : l.length ≤ 100000) : PCall Tryz.prog 52 [.pv (encInts l), .pv (encInts l)] (fun a => a = vbool true) := by
  refine acall_of tok mixed 26 rfl (fn := Tryz.f52) (c := Tryz.f52.body.getD .skip) (by kernel_rfl) (by kernel_rfl) (by kernel_rfl) rfl 0 rfl ?_
  repeat' (first | refine o1 ?_ | refine o2 ?_ | refine k1 ?_ | refine k2 ?_ | refine k3 ?_ | refine k4 ?_ | refine k6 ?_ | refine And.intro ?_ ?_ | (intro h; first | exact Bool.noConfusion h | exact nz _ h | exact nl h | (simp at h; done) | (simp at h; first | (exfalso; omega) | skip) | skip) | refine eqv_len_map ?_ | fail)
  refine loop_at (fun i : Nat => [(5, vint .i64 i)]) (fun _ => []) (fun i => i ≤ l.length) (fun i => l.length - i) 0 (Nat.zero_le _) (by repeat' (first | exact trivial | exact ⟨_, rfl, ALe.refl⟩ | refine And.intro ?_ ?_)) (by repeat' (first | exact trivial)) ?_
  intro i hi
  rcases Nat.lt_or_ge i l.length with hlt | hge
  · obtain ⟨q, hq⟩ := getE hlt
    repeat' (first | refine o1 ?_ | refine o2 ?_ | refine k1 ?_ | refine k2 ?_ | refine k3 ?_ | refine k4 ?_ | refine k6 ?_ | refine And.intro ?_ ?_ | refine o3 ?_ | refine o4 ?_ | (intro h; first | exact Bool.noConfusion h | exact nz _ h | exact nl h | (simp at h; done) | (simp at h; first | (exfalso; omega) | skip) | skip) | exact (by kernel_rfl : drawOk _ _ = true) | refine eqv_len_map ?_ | refine eqv_wrap (by omega) (by omega) ?_ | refine ⟨_, _, (by first | rfl | assumption), at_map (by assumption), ?_⟩ | fail)
    all_goals first
      | exact ⟨i + 1, hlt, by omega, back [] rfl rfl trivial (by repeat' (first | exact trivial | exact rfl | refine And.intro ?_ ?_))⟩
      | (exfalso; simp_all; done)
  · repeat' (first | refine o1 ?_ | refine o2 ?_ | refine k1 ?_ | refine k2 ?_ | refine k3 ?_ | refine k7 ?_ | refine k8 ?_ | refine And.intro ?_ ?_ | (intro h; first | exact Bool.noConfusion h | exact nz _ h | exact nl h | (simp at h; done) | (simp at h; first | (exfalso; omega) | skip) | skip) | (change retOk _ _ _ _; refine ret_pure rfl trivial ?_) | refine eqv_len_map ?_ | fail)
    rfl
theorem c_sameOpts (m : List Opt) (hl : m.length ≤ 100000) (hch : ∀ o ∈ m, o.charges.length ≤ 100000) : PCall Tryz.prog 51 [.pv (.sl 6 (m.map Opt.row)), .pv (.sl 6 (m.map Opt.row))] (fun a => a = vbool true) := by
  refine acall_of tok mixed 71 rfl (fn := Tryz.f51) (c := Tryz.f51.body.getD .skip) (by kernel_rfl) (by kernel_rfl) (by kernel_rfl) rfl 0 rfl ?_
  repeat' (first | refine o1 ?_ | refine o2 ?_ | refine k1 ?_ | refine k2 ?_ | refine k3 ?_ | refine k4 ?_ | refine k6 ?_ | refine And.intro ?_ ?_ | (intro h; first | exact Bool.noConfusion h | exact nz _ h | exact nl h | (simp at h; done) | (simp at h; first | (exfalso; omega) | skip) | skip) | refine eqv_len_map ?_ | fail)
  refine loop_at (fun i : Nat => [(5, vint .i64 i)]) (fun _ => []) (fun i => i ≤ m.length) (fun i => m.length - i) 0 (Nat.zero_le _) (by repeat' (first | exact trivial | exact ⟨_, rfl, ALe.refl⟩ | refine And.intro ?_ ?_)) (by repeat' (first | exact trivial)) ?_
  intro i hi
  rcases Nat.lt_or_ge i m.length with hlt | hge
  · obtain ⟨⟨p, ch⟩, hq⟩ := getE hlt
    have hc0 := hch _ (List.mem_of_getElem? hq)
    dsimp only at hc0
    repeat' (first | refine o1 ?_ | refine o2 ?_ | refine k1 ?_ | refine k2 ?_ | refine k3 ?_ | refine k4 ?_ | refine k6 ?_ | refine And.intro ?_ ?_ | refine o3 ?_ | refine o4 ?_ | (intro h; first | exact Bool.noConfusion h | exact nz _ h | exact nl h | (simp at h; done) | (simp at h; first | (exfalso; omega) | skip) | skip) | exact (by kernel_rfl : drawOk _ _ = true) | refine eqv_len_map ?_ | refine ⟨_, _, (by first | rfl | assumption), at_map (by assumption), ?_⟩ | fail)
    all_goals first
      | (exfalso; simp_all; done)
      | skip
    refine loop_at (fun k : Nat => [(6, vint .i64 k)]) (fun _ => []) (fun k => k ≤ ch.length) (fun k => ch.length - k) 0 (Nat.zero_le _) (by repeat' (first | exact trivial | exact ⟨_, rfl, ALe.refl⟩ | refine And.intro ?_ ?_)) (by repeat' (first | exact trivial)) ?_
    intro k hk
    rcases Nat.lt_or_ge k ch.length with hkl | hkg
    · obtain ⟨c, hc⟩ := getE hkl
      repeat' (first | refine o1 ?_ | refine o2 ?_ | refine k1 ?_ | refine k2 ?_ | refine k3 ?_ | refine k4 ?_ | refine k6 ?_ | refine And.intro ?_ ?_ | refine o3 ?_ | refine o4 ?_ | (intro h; first | exact Bool.noConfusion h | exact nz _ h | exact nl h | (simp at h; done) | (simp at h; first | (exfalso; omega) | skip) | skip) | exact (by kernel_rfl : drawOk _ _ = true) | refine eqv_len_map ?_ | refine eqv_wrap (by omega) (by omega) ?_ | refine ⟨_, _, (by first | rfl | assumption), at_map (by assumption), ?_⟩ | fail)
      all_goals first
        | exact ⟨k + 1, by omega, by omega, back [] rfl rfl trivial (by repeat' (first | exact trivial | exact rfl | refine And.intro ?_ ?_))⟩
        | (exfalso; simp_all; done)
    · obtain rfl : k = ch.length := by omega
      repeat' (first | refine o1 ?_ | refine o2 ?_ | refine k1 ?_ | refine k2 ?_ | refine k3 ?_ | refine k8 ?_ | refine And.intro ?_ ?_ | (intro h; first | exact Bool.noConfusion h | exact nz _ h | exact nl h | (simp at h; done) | (simp at h; first | (exfalso; omega) | skip) | skip) | refine eqv_len_map ?_ | refine eqv_wrap (by omega) (by omega) ?_ | refine ⟨_, _, (by first | rfl | assumption), at_map (by assumption), ?_⟩ | fail)
      exact ⟨i + 1, hlt, by omega, back [] rfl rfl trivial (by repeat' (first | exact trivial | exact rfl | refine And.intro ?_ ?_))⟩
  · repeat' (first | refine o1 ?_ | refine o2 ?_ | refine k1 ?_ | refine k2 ?_ | refine k3 ?_ | refine k7 ?_ | refine k8 ?_ | refine And.intro ?_ ?_ | (intro h; first | exact Bool.noConfusion h | exact nz _ h | exact nl h | (simp at h; done) | (simp at h; first | (exfalso; omega) | skip) | skip) | (change retOk _ _ _ _; refine ret_pure rfl trivial ?_) | refine eqv_len_map ?_ | fail)
    rfl
structure SameOk (M : Model) : Prop where
  cls : M.classes.length ≤ 100000
  opt : ∀ l ∈ M.classes, l.length ≤ 100000
  chg : ∀ l ∈ M.classes, ∀ o ∈ l, o.charges.length ≤ 100000
  prs : M.pairs.length ≤ 100000
  tab : ∀ p ∈ M.pairs, p.table.length ≤ 100000
  cnt : M.counts.length ≤ 100000
  lds : ∀ c ∈ M.counts, c.loads.length ≤ 100000
theorem c_same (M : Model) (h : SameOk M) : PCall Tryz.prog 22 [ag M.cells, ag M.cells] (fun a => a = vbool true) := by
  obtain ⟨hcl, hol, hch, hpl, htl, hnl, hll⟩ := h
  have hco := fun m hm => c_sameOpts m (hol m hm) (hch m hm)
  obtain ⟨C, P2, N2, n2⟩ := M
  dsimp only at hcl hpl htl hnl hll hco
  refine acall_of tok mixed 171 rfl (fn := Tryz.f22) (c := Tryz.f22.body.getD .skip) (by kernel_rfl) (by kernel_rfl) (by kernel_rfl) rfl 0 rfl ?_
  repeat' (first | refine o1 ?_ | refine o2 ?_ | refine k1 ?_ | refine k2 ?_ | refine k3 ?_ | refine k4 ?_ | refine k6 ?_ | refine And.intro ?_ ?_ | (intro h; first | exact Bool.noConfusion h | exact nz _ h | exact nl h | (simp at h; done) | (simp at h; first | (exfalso; omega) | skip) | skip) | refine eqv_len_map ?_ | fail)
  all_goals try (exfalso; simp_all; done)
  refine loop_in (fun i : Nat => [(5, vint .i64 i)]) (fun _ => [some ⟨51, 4, false, .box (pvs (Model.cells ⟨C, P2, N2, n2⟩))⟩, some ⟨51, 4, false, .box (pvs (Model.cells ⟨C, P2, N2, n2⟩))⟩]) (fun i => i ≤ C.length) (fun i => C.length - i) 0 (Nat.zero_le _) ⟨?_, ?_⟩
  · exact back [0, 1] rfl rfl ⟨rfl, rfl, trivial⟩ (by repeat' (first | exact trivial | exact rfl | refine And.intro ?_ ?_))
  intro i hi
  rcases Nat.lt_or_ge i C.length with hlt | hge
  · obtain ⟨q, hq⟩ := getE hlt
    have hcq := hco q (List.mem_of_getElem? hq)
    repeat' (first | refine o1 ?_ | refine o2 ?_ | refine k1 ?_ | refine k2 ?_ | refine k3 ?_ | refine k4 ?_ | refine k6 ?_ | refine And.intro ?_ ?_ | refine o3 ?_ | refine o4 ?_ | (intro h; first | exact Bool.noConfusion h | exact nz _ h | exact nl h | (simp at h; done) | (simp at h; first | (exfalso; omega) | skip) | skip) | exact (by kernel_rfl : drawOk _ _ = true) | refine eqv_len_map ?_ | refine eqv_wrap (by omega) (by omega) ?_ | refine ⟨_, _, (by first | rfl | assumption), at_map (by assumption), ?_⟩ | (change vcFunD _ _ _ _ _; refine callD_eq rfl (by repeat' (first | trivial | refine And.intro ?_ ?_ | (show 0 + _ ≤ List.length _; simp))) ALeL.refl (hcq) rfl ?_) | fail)
    all_goals first
      | exact ⟨i + 1, hlt, by omega, back [0, 1] rfl rfl ⟨rfl, rfl, trivial⟩ (by repeat' (first | exact trivial | exact rfl | refine And.intro ?_ ?_))⟩
  repeat' (first | refine o1 ?_ | refine o2 ?_ | refine k1 ?_ | refine k2 ?_ | refine k3 ?_ | refine k4 ?_ | refine k8 ?_ | refine And.intro ?_ ?_ | (intro h; first | exact Bool.noConfusion h | exact nz _ h | exact nl h | (simp at h; done) | (simp at h; first | (exfalso; omega) | skip) | skip) | refine eqv_len_map ?_ | fail)
  refine loop_in (fun i : Nat => [(6, vint .i64 i)]) (fun _ => [some ⟨51, 4, false, .box (pvs (Model.cells ⟨C, P2, N2, n2⟩))⟩, some ⟨51, 4, false, .box (pvs (Model.cells ⟨C, P2, N2, n2⟩))⟩]) (fun i => i ≤ P2.length) (fun i => P2.length - i) 0 (Nat.zero_le _) ⟨?_, ?_⟩
  · exact back [0, 1] rfl rfl ⟨rfl, rfl, trivial⟩ (by repeat' (first | exact trivial | exact rfl | refine And.intro ?_ ?_))
  intro i hi
  rcases Nat.lt_or_ge i P2.length with hlt | hge
  · obtain ⟨q, hq⟩ := getE hlt
    have hcq := c_sameInts17 q.table (htl q (List.mem_of_getElem? hq))
    repeat' (first | refine o1 ?_ | refine o2 ?_ | refine k1 ?_ | refine k2 ?_ | refine k3 ?_ | refine k4 ?_ | refine k6 ?_ | refine And.intro ?_ ?_ | refine o3 ?_ | refine o4 ?_ | (intro h; first | exact Bool.noConfusion h | exact nz _ h | exact nl h | (simp at h; done) | (simp at h; first | (exfalso; omega) | skip) | skip) | exact (by kernel_rfl : drawOk _ _ = true) | refine eqv_len_map ?_ | refine eqv_wrap (by omega) (by omega) ?_ | refine ⟨_, _, (by first | rfl | assumption), at_map (by assumption), ?_⟩ | (change vcFun _ _ _ _ _; refine call_eq rfl (by repeat' (first | trivial | refine And.intro ?_ ?_ | (show 0 + _ ≤ List.length _; simp))) ALeL.refl (hcq) rfl ?_) | fail)
    all_goals first
      | exact ⟨i + 1, hlt, by omega, back [0, 1] rfl rfl ⟨rfl, rfl, trivial⟩ (by repeat' (first | exact trivial | exact rfl | refine And.intro ?_ ?_))⟩
      | (exfalso; simp_all; done)
  repeat' (first | refine o1 ?_ | refine o2 ?_ | refine k1 ?_ | refine k2 ?_ | refine k3 ?_ | refine k4 ?_ | refine k8 ?_ | refine And.intro ?_ ?_ | (intro h; first | exact Bool.noConfusion h | exact nz _ h | exact nl h | (simp at h; done) | (simp at h; first | (exfalso; omega) | skip) | skip) | refine eqv_len_map ?_ | fail)
  refine loop_in (fun i : Nat => [(9, vint .i64 i)]) (fun _ => [some ⟨51, 4, false, .box (pvs (Model.cells ⟨C, P2, N2, n2⟩))⟩, some ⟨51, 4, false, .box (pvs (Model.cells ⟨C, P2, N2, n2⟩))⟩]) (fun i => i ≤ N2.length) (fun i => N2.length - i) 0 (Nat.zero_le _) ⟨?_, ?_⟩
  · exact back [0, 1] rfl rfl ⟨rfl, rfl, trivial⟩ (by repeat' (first | exact trivial | exact rfl | refine And.intro ?_ ?_))
  intro i hi
  rcases Nat.lt_or_ge i N2.length with hlt | hge
  · obtain ⟨q, hq⟩ := getE hlt
    have hql := hll q (List.mem_of_getElem? hq)
    repeat' (first | refine o1 ?_ | refine o2 ?_ | refine k1 ?_ | refine k2 ?_ | refine k3 ?_ | refine k4 ?_ | refine k6 ?_ | refine And.intro ?_ ?_ | refine o3 ?_ | refine o4 ?_ | (intro h; first | exact Bool.noConfusion h | exact nz _ h | exact nl h | (simp at h; done) | (simp at h; first | (exfalso; omega) | skip) | skip) | exact (by kernel_rfl : drawOk _ _ = true) | refine eqv_len_map ?_ | refine ⟨_, _, (by first | rfl | assumption), at_map (by assumption), ?_⟩ | fail)
    all_goals try (exfalso; simp_all; done)
    refine loop_in (fun k : Nat => [(12, vint .i64 k)]) (fun _ => [some ⟨51, 4, false, .box (pvs (Model.cells ⟨C, P2, N2, n2⟩))⟩, some ⟨51, 4, false, .box (pvs (Model.cells ⟨C, P2, N2, n2⟩))⟩, some ⟨120, 4, false, .box (pvs q.row)⟩, some ⟨120, 4, false, .box (pvs q.row)⟩]) (fun k => k ≤ q.loads.length) (fun k => q.loads.length - k) 0 (Nat.zero_le _) ⟨?_, ?_⟩
    · exact back [0, 1, 2, 3] rfl rfl ⟨rfl, rfl, rfl, rfl, trivial⟩ (by repeat' (first | exact trivial | exact rfl | refine And.intro ?_ ?_))
    intro k hk
    rcases Nat.lt_or_ge k q.loads.length with hkl | hkg
    · obtain ⟨c, hc⟩ := getE hkl
      repeat' (first | refine o1 ?_ | refine o2 ?_ | refine k1 ?_ | refine k2 ?_ | refine k3 ?_ | refine k4 ?_ | refine k6 ?_ | refine And.intro ?_ ?_ | refine o3 ?_ | refine o4 ?_ | (intro h; first | exact Bool.noConfusion h | exact nz _ h | exact nl h | (simp at h; done) | (simp at h; first | (exfalso; omega) | skip) | skip) | exact (by kernel_rfl : drawOk _ _ = true) | refine eqv_len_map ?_ | refine eqv_wrap (by omega) (by omega) ?_ | refine ⟨_, _, (by first | rfl | assumption), at_map (by assumption), ?_⟩ | fail)
      all_goals first
        | exact ⟨k + 1, by omega, by omega, back [0, 1, 2, 3] rfl rfl ⟨rfl, rfl, rfl, rfl, trivial⟩ (by repeat' (first | exact trivial | exact rfl | refine And.intro ?_ ?_))⟩
        | (exfalso; simp_all; done)
    · obtain rfl : k = q.loads.length := by omega
      repeat' (first | refine o1 ?_ | refine o2 ?_ | refine k1 ?_ | refine k2 ?_ | refine k3 ?_ | refine k8 ?_ | refine And.intro ?_ ?_ | (intro h; first | exact Bool.noConfusion h | exact nz _ h | exact nl h | (simp at h; done) | (simp at h; first | (exfalso; omega) | skip) | skip) | refine eqv_len_map ?_ | refine eqv_wrap (by omega) (by omega) ?_ | fail)
      exact ⟨i + 1, hlt, by omega, back [0, 1] rfl rfl ⟨rfl, rfl, trivial⟩ (by repeat' (first | exact trivial | exact rfl | refine And.intro ?_ ?_))⟩
  repeat' (first | refine o1 ?_ | refine o2 ?_ | refine k1 ?_ | refine k2 ?_ | refine k3 ?_ | refine k7 ?_ | refine k8 ?_ | refine And.intro ?_ ?_ | (intro h; first | exact Bool.noConfusion h | exact nz _ h | exact nl h | (simp at h; done) | (simp at h; first | (exfalso; omega) | skip) | skip) | (change retOk _ _ _ _; refine ret_pure rfl trivial ?_) | refine eqv_len_map ?_ | fail)
  rfl
end Go.Proofs.YtpnghlibmpainaaGreat.Cw

/-
  Contracts: prices, rules, options of models.
-/
namespace Go.Proofs.YtpnghlibmpainaaGreat.Cw
open Go.Cw Go.Proofs
set_option linter.unusedVariables false
set_option maxRecDepth 100000
set_option maxHeartbeats 800000

theorem c_cost (n : Int) : PCall Tryz.prog 98 [vint .i64 n] (fun r => r = vbool (pB (priceP n))) := by
  refine acall_of tok mixed 13 rfl (fn := Tryz.f98) (c := Tryz.f98.body.getD .skip) (by kernel_rfl) (by kernel_rfl) (by kernel_rfl) rfl 0 rfl ?_
  repeat' (first | refine o1 ?_ | refine o2 ?_ | refine k1 ?_ | refine k2 ?_ | refine k3 ?_ | refine k4 ?_ | refine k6 ?_ | refine k7 ?_ | refine k8 ?_ | refine And.intro ?_ ?_ | exact trivial | refine o3 ?_ | refine o4 ?_ | refine o5 ?_ | refine o6 ?_ | refine k5 ?_ | (intro h; first | exact Bool.noConfusion h | exact nz _ h | exact nl h | (simp at h; done) | (simp at h; first | (exfalso; omega) | skip) | skip) | (change retOk _ _ _ _; refine ret_pure rfl trivial ?_) | exact (rfl : allOne _ = true) | (refine (?_ : (0 : Int) ≤ _); omega) | (refine (?_ : _ ≠ _); omega) | (refine (?_ : srcLen _ = rowsLen _); rfl) | exact Nat.le_of_ble_eq_true rfl | exact (by kernel_rfl : drawOk _ _ = true) | refine eqv_len_map ?_ | refine eqv_size ?_ | refine eqv_put (eqv_ck ?_) | refine eqv_zero ?_ | refine eqv_wrap (by omega) (by omega) ?_ | refine eqv_u64 (by omega) (by omega) ?_ | refine eqv_u8 (by omega) (by omega) ?_ | refine eqv_to _ (set_map rfl rfl) ?_ | refine ⟨_, _, (by first | rfl | assumption), at_map (by assumption), ?_⟩ | refine ⟨_, _, (by first | rfl | assumption), (by assumption), ?_⟩ | refine ⟨_, at_map (by assumption), (by decide), ?_⟩ | refine ⟨_, at_map (by assumption), ?_⟩ | (refine (?_ : _ ≤ 140737488355328); simp [rowsLen] <;> omega) | (refine (?_ : _ ≤ 9223372036854775807); simp [rowsLen] <;> omega) | (refine (?_ : _ = rowsLen _); simp [rowsLen] <;> omega) | refine eqv_to _ (app_row rfl) (eqv_to _ app_len ?_) | refine eqv_to _ (app_first rfl) (eqv_to 1 rfl ?_) | refine idx_sl (at_map (by assumption)) (by omega) ?_ | refine idx_ms _ (by first | rfl | assumption) (by first | assumption | omega) ?_ | fail)
  all_goals (refine congrArg vbool (pB_eq ?_); unfold priceP; simp; omega)
theorem c_named (m : Model) (n : Int) : PCall Tryz.prog 97 [ag m.cells, vint .i64 n] (fun r => r = vbool (pB (ruleP m n))) := by
  refine acall_of tok mixed 13 rfl (fn := Tryz.f97) (c := Tryz.f97.body.getD .skip) (by kernel_rfl) (by kernel_rfl) (by kernel_rfl) rfl 0 rfl ?_
  repeat' (first | refine o1 ?_ | refine o2 ?_ | refine k1 ?_ | refine k2 ?_ | refine k3 ?_ | refine k4 ?_ | refine k6 ?_ | refine k7 ?_ | refine k8 ?_ | refine And.intro ?_ ?_ | exact trivial | refine o3 ?_ | refine o4 ?_ | refine o5 ?_ | refine o6 ?_ | refine k5 ?_ | (intro h; first | exact Bool.noConfusion h | exact nz _ h | exact nl h | (simp at h; done) | (simp at h; first | (exfalso; omega) | skip) | skip) | (change retOk _ _ _ _; refine ret_pure rfl trivial ?_) | exact (rfl : allOne _ = true) | (refine (?_ : (0 : Int) ≤ _); omega) | (refine (?_ : _ ≠ _); omega) | (refine (?_ : srcLen _ = rowsLen _); rfl) | exact Nat.le_of_ble_eq_true rfl | exact (by kernel_rfl : drawOk _ _ = true) | refine eqv_len_map ?_ | refine eqv_size ?_ | refine eqv_put (eqv_ck ?_) | refine eqv_zero ?_ | refine eqv_wrap (by omega) (by omega) ?_ | refine eqv_u64 (by omega) (by omega) ?_ | refine eqv_u8 (by omega) (by omega) ?_ | refine eqv_to _ (set_map rfl rfl) ?_ | refine ⟨_, _, (by first | rfl | assumption), at_map (by assumption), ?_⟩ | refine ⟨_, _, (by first | rfl | assumption), (by assumption), ?_⟩ | refine ⟨_, at_map (by assumption), (by decide), ?_⟩ | refine ⟨_, at_map (by assumption), ?_⟩ | (refine (?_ : _ ≤ 140737488355328); simp [rowsLen] <;> omega) | (refine (?_ : _ ≤ 9223372036854775807); simp [rowsLen] <;> omega) | (refine (?_ : _ = rowsLen _); simp [rowsLen] <;> omega) | refine eqv_to _ (app_row rfl) (eqv_to _ app_len ?_) | refine eqv_to _ (app_first rfl) (eqv_to 1 rfl ?_) | refine idx_sl (at_map (by assumption)) (by omega) ?_ | refine idx_ms _ (by first | rfl | assumption) (by first | assumption | omega) ?_ | fail)
  all_goals (refine congrArg vbool (pB_eq ?_); unfold ruleP; simp; omega)
theorem option_iff {m : Model} {n : Nat} {o : Int} {l : List Opt} (hl : m.classes[n]? = some l) : optionP m n o ↔ 0 ≤ o ∧ o < l.length := by
  unfold optionP
  rw [Int.toNat_natCast, hl]
  constructor
  · rintro ⟨h1, h2, l', h3, h4⟩; cases h3; exact ⟨h2, h4⟩
  · rintro ⟨h1, h2⟩; exact ⟨by omega, h1, l, rfl, h2⟩
theorem option_f {m : Model} {c o : Int} (h : ¬ (0 ≤ c ∧ c < m.classes.length)) : ¬ optionP m c o := fun ⟨h1, h2, l, h3, h4⟩ => by
  have := (List.getElem?_eq_some_iff.1 h3).1
  omega
theorem c_option (m : Model) (c o : Int) : PCall Tryz.prog 104 [ag m.cells, vint .i64 c, vint .i64 o] (fun r => r = vbool (pB (optionP m c o))) := by
  by_cases h : 0 ≤ c ∧ c < m.classes.length
  · obtain ⟨h1, h2⟩ := h
    obtain ⟨n, rfl⟩ := Int.eq_ofNat_of_zero_le h1
    obtain ⟨l, hl⟩ := getE (show n < m.classes.length by omega)
    refine acall_of tok mixed 30 rfl (fn := Tryz.f104) (c := Tryz.f104.body.getD .skip) (by kernel_rfl) (by kernel_rfl) (by kernel_rfl) rfl 0 rfl ?_
    rw [pB_iff (option_iff hl)]
    repeat' (first | (refine idx_sl (k := n) (at_map hl) (by omega) ?_) | refine o1 ?_ | refine o2 ?_ | refine k1 ?_ | refine k2 ?_ | refine k3 ?_ | refine k4 ?_ | refine k6 ?_ | refine k7 ?_ | refine k8 ?_ | refine And.intro ?_ ?_ | exact trivial | refine o3 ?_ | refine o4 ?_ | refine o5 ?_ | refine o6 ?_ | refine k5 ?_ | (intro h; first | exact Bool.noConfusion h | exact nz _ h | exact nl h | (simp at h; done) | (simp at h; first | (exfalso; omega) | skip) | skip) | (change retOk _ _ _ _; refine ret_pure rfl trivial ?_) | exact (rfl : allOne _ = true) | (refine (?_ : (0 : Int) ≤ _); omega) | (refine (?_ : _ ≠ _); omega) | (refine (?_ : srcLen _ = rowsLen _); rfl) | exact Nat.le_of_ble_eq_true rfl | exact (by kernel_rfl : drawOk _ _ = true) | refine eqv_len_map ?_ | refine eqv_size ?_ | refine eqv_put (eqv_ck ?_) | refine eqv_zero ?_ | refine eqv_wrap (by omega) (by omega) ?_ | refine eqv_u64 (by omega) (by omega) ?_ | refine eqv_u8 (by omega) (by omega) ?_ | refine eqv_to _ (set_map rfl rfl) ?_ | refine ⟨_, _, (by first | rfl | assumption), at_map (by assumption), ?_⟩ | refine ⟨_, _, (by first | rfl | assumption), (by assumption), ?_⟩ | refine ⟨_, at_map (by assumption), (by decide), ?_⟩ | refine ⟨_, at_map (by assumption), ?_⟩ | (refine (?_ : _ ≤ 140737488355328); simp [rowsLen] <;> omega) | (refine (?_ : _ ≤ 9223372036854775807); simp [rowsLen] <;> omega) | (refine (?_ : _ = rowsLen _); simp [rowsLen] <;> omega) | refine eqv_to _ (app_row rfl) (eqv_to _ app_len ?_) | refine eqv_to _ (app_first rfl) (eqv_to 1 rfl ?_) | refine idx_sl (at_map (by assumption)) (by omega) ?_ | refine idx_ms _ (by first | rfl | assumption) (by first | assumption | omega) ?_ | fail)
    all_goals first
      | (exfalso; omega)
      | (refine congrArg vbool (pB_eq ?_); simp; omega)
  · refine acall_of tok mixed 30 rfl (fn := Tryz.f104) (c := Tryz.f104.body.getD .skip) (by kernel_rfl) (by kernel_rfl) (by kernel_rfl) rfl 0 rfl ?_
    rw [pB_f (option_f h)]
    repeat' (first | refine o1 ?_ | refine o2 ?_ | refine k1 ?_ | refine k2 ?_ | refine k3 ?_ | refine k4 ?_ | refine k6 ?_ | refine k7 ?_ | refine k8 ?_ | refine And.intro ?_ ?_ | exact trivial | refine o3 ?_ | refine o4 ?_ | refine o5 ?_ | refine o6 ?_ | refine k5 ?_ | (intro h; first | exact Bool.noConfusion h | exact nz _ h | exact nl h | (simp at h; done) | (simp at h; first | (exfalso; omega) | skip) | skip) | (change retOk _ _ _ _; refine ret_pure rfl trivial ?_) | exact (rfl : allOne _ = true) | (refine (?_ : (0 : Int) ≤ _); omega) | (refine (?_ : _ ≠ _); omega) | (refine (?_ : srcLen _ = rowsLen _); rfl) | exact Nat.le_of_ble_eq_true rfl | exact (by kernel_rfl : drawOk _ _ = true) | refine eqv_len_map ?_ | refine eqv_size ?_ | refine eqv_put (eqv_ck ?_) | refine eqv_zero ?_ | refine eqv_wrap (by omega) (by omega) ?_ | refine eqv_u64 (by omega) (by omega) ?_ | refine eqv_u8 (by omega) (by omega) ?_ | refine eqv_to _ (set_map rfl rfl) ?_ | refine ⟨_, _, (by first | rfl | assumption), at_map (by assumption), ?_⟩ | refine ⟨_, _, (by first | rfl | assumption), (by assumption), ?_⟩ | refine ⟨_, at_map (by assumption), (by decide), ?_⟩ | refine ⟨_, at_map (by assumption), ?_⟩ | (refine (?_ : _ ≤ 140737488355328); simp [rowsLen] <;> omega) | (refine (?_ : _ ≤ 9223372036854775807); simp [rowsLen] <;> omega) | (refine (?_ : _ = rowsLen _); simp [rowsLen] <;> omega) | refine eqv_to _ (app_row rfl) (eqv_to _ app_len ?_) | refine eqv_to _ (app_first rfl) (eqv_to 1 rfl ?_) | refine idx_sl (at_map (by assumption)) (by omega) ?_ | refine idx_ms _ (by first | rfl | assumption) (by first | assumption | omega) ?_ | fail)
    all_goals first
      | exact rfl
      | (exfalso; omega)
end Go.Proofs.YtpnghlibmpainaaGreat.Cw

/-
  Contracts: searching the lists of models; charges; sizes.
-/
namespace Go.Proofs.YtpnghlibmpainaaGreat.Cw
open Go.Cw Go.Proofs
set_option linter.unusedVariables false
set_option maxRecDepth 100000
set_option maxHeartbeats 800000

theorem c_index_opt (l : List Opt) (f : FuncId) (caps : List PV) (p : Opt → Bool) (hl : l.length ≤ 100000) (hf : ∀ x ∈ l, PCall Tryz.prog f (ag (Opt.row x) :: pvs caps) (fun r => r = vbool (p x))) :
    PCall Tryz.prog 96 [.pv (.sl 6 (l.map Opt.row)), .pv (.fn f caps)] (fun r => r = vint .i64 (idxB p l)) := by
  refine acall_of tok mixed 19 rfl (fn := Tryz.f96) (c := Tryz.f96.body.getD .skip) (by kernel_rfl) (by kernel_rfl) (by kernel_rfl) rfl 0 rfl ?_
  repeat' (first | refine o1 ?_ | refine o2 ?_ | refine k1 ?_ | refine k2 ?_ | refine k3 ?_ | refine k4 ?_ | refine k6 ?_ | refine k7 ?_ | refine k8 ?_ | refine And.intro ?_ ?_ | exact trivial | refine o3 ?_ | refine o4 ?_ | refine o5 ?_ | refine o6 ?_ | refine k5 ?_ | (intro h; first | exact Bool.noConfusion h | exact nz _ h | exact nl h | (simp at h; done) | (simp at h; first | (exfalso; omega) | skip) | skip) | (change retOk _ _ _ _; refine ret_pure rfl trivial ?_) | exact (rfl : allOne _ = true) | (refine (?_ : (0 : Int) ≤ _); omega) | (refine (?_ : _ ≠ _); omega) | (refine (?_ : srcLen _ = rowsLen _); rfl) | exact Nat.le_of_ble_eq_true rfl | exact (by kernel_rfl : drawOk _ _ = true) | refine eqv_len_map ?_ | refine eqv_size ?_ | refine eqv_put (eqv_ck ?_) | refine eqv_zero ?_ | refine eqv_wrap (by omega) (by omega) ?_ | refine eqv_u64 (by omega) (by omega) ?_ | refine eqv_u8 (by omega) (by omega) ?_ | refine eqv_to _ (set_map rfl rfl) ?_ | refine ⟨_, _, (by first | rfl | assumption), at_map (by assumption), ?_⟩ | refine ⟨_, _, (by first | rfl | assumption), (by assumption), ?_⟩ | refine ⟨_, at_map (by assumption), (by decide), ?_⟩ | refine ⟨_, at_map (by assumption), ?_⟩ | (refine (?_ : _ ≤ 140737488355328); simp [rowsLen] <;> omega) | (refine (?_ : _ ≤ 9223372036854775807); simp [rowsLen] <;> omega) | (refine (?_ : _ = rowsLen _); simp [rowsLen] <;> omega) | refine eqv_to _ (app_row rfl) (eqv_to _ app_len ?_) | refine eqv_to _ (app_first rfl) (eqv_to 1 rfl ?_) | refine idx_sl (at_map (by assumption)) (by omega) ?_ | refine idx_ms _ (by first | rfl | assumption) (by first | assumption | omega) ?_ | fail)
  refine loop_at (fun i : Nat => [(8, vint .i64 i)]) (fun _ => []) (fun i => i ≤ l.length ∧ ∀ j, j < i → ∀ y, l[j]? = some y → p y = false) (fun i => l.length - i) 0 ⟨by omega, fun j hj => by omega⟩ (by repeat' (first | exact trivial | exact rfl | exact ⟨_, rfl, ALe.refl⟩ | refine And.intro ?_ ?_)) (by repeat' (first | exact trivial | exact rfl | exact ⟨_, rfl, ALe.refl⟩ | refine And.intro ?_ ?_)) ?_
  intro i ⟨hi, hall⟩
  rcases Nat.lt_or_ge i l.length with hlt | hge
  · obtain ⟨x, hx⟩ := getE hlt
    have hm := List.mem_of_getElem? hx
    repeat' (first | refine o1 ?_ | refine o2 ?_ | refine k1 ?_ | refine k2 ?_ | refine k3 ?_ | refine k4 ?_ | refine k6 ?_ | refine k7 ?_ | refine k8 ?_ | refine And.intro ?_ ?_ | exact trivial | refine o3 ?_ | refine o4 ?_ | refine o5 ?_ | refine o6 ?_ | refine k5 ?_ | (intro h; first | exact Bool.noConfusion h | exact nz _ h | exact nl h | (simp at h; done) | (simp at h; first | (exfalso; omega) | skip) | skip) | (change retOk _ _ _ _; refine ret_pure rfl trivial ?_) | exact (rfl : allOne _ = true) | (refine (?_ : (0 : Int) ≤ _); omega) | (refine (?_ : _ ≠ _); omega) | (refine (?_ : srcLen _ = rowsLen _); rfl) | exact Nat.le_of_ble_eq_true rfl | exact (by kernel_rfl : drawOk _ _ = true) | refine eqv_len_map ?_ | refine eqv_size ?_ | refine eqv_put (eqv_ck ?_) | refine eqv_zero ?_ | refine eqv_wrap (by omega) (by omega) ?_ | refine eqv_u64 (by omega) (by omega) ?_ | refine eqv_u8 (by omega) (by omega) ?_ | refine eqv_to _ (set_map rfl rfl) ?_ | refine ⟨_, _, (by first | rfl | assumption), at_map (by assumption), ?_⟩ | refine ⟨_, _, (by first | rfl | assumption), (by assumption), ?_⟩ | refine ⟨_, at_map (by assumption), (by decide), ?_⟩ | refine ⟨_, at_map (by assumption), ?_⟩ | (refine (?_ : _ ≤ 140737488355328); simp [rowsLen] <;> omega) | (refine (?_ : _ ≤ 9223372036854775807); simp [rowsLen] <;> omega) | (refine (?_ : _ = rowsLen _); simp [rowsLen] <;> omega) | refine eqv_to _ (app_row rfl) (eqv_to _ app_len ?_) | refine eqv_to _ (app_first rfl) (eqv_to 1 rfl ?_) | refine idx_sl (at_map (by assumption)) (by omega) ?_ | refine idx_ms _ (by first | rfl | assumption) (by first | assumption | omega) ?_ | (change vcFun _ _ (_ ++ pvs _) _ _; refine call_cap rfl (by repeat' (first | trivial | refine And.intro ?_ ?_ | (show 0 + _ ≤ List.length _; simp))) (hf x hm) rfl ?_) | fail)
    all_goals first
      | exact ⟨i + 1, ⟨by omega, all_lt_succ hall fun y hy => by rw [hx] at hy; cases hy; assumption⟩, by omega, back [] rfl rfl trivial (by repeat' (first | exact trivial | exact rfl | exact ⟨_, rfl, ALe.refl⟩ | refine And.intro ?_ ?_))⟩
      | exact congrArg (vint .i64) (idxB_at hall hx (by assumption)).symm
  · repeat' (first | refine o1 ?_ | refine o2 ?_ | refine k1 ?_ | refine k2 ?_ | refine k3 ?_ | refine k4 ?_ | refine k6 ?_ | refine k7 ?_ | refine k8 ?_ | refine And.intro ?_ ?_ | exact trivial | refine o3 ?_ | refine o4 ?_ | refine o5 ?_ | refine o6 ?_ | refine k5 ?_ | (intro h; first | exact Bool.noConfusion h | exact nz _ h | exact nl h | (simp at h; done) | (simp at h; first | (exfalso; omega) | skip) | skip) | (change retOk _ _ _ _; refine ret_pure rfl trivial ?_) | exact (rfl : allOne _ = true) | (refine (?_ : (0 : Int) ≤ _); omega) | (refine (?_ : _ ≠ _); omega) | (refine (?_ : srcLen _ = rowsLen _); rfl) | exact Nat.le_of_ble_eq_true rfl | exact (by kernel_rfl : drawOk _ _ = true) | refine eqv_len_map ?_ | refine eqv_size ?_ | refine eqv_put (eqv_ck ?_) | refine eqv_zero ?_ | refine eqv_wrap (by omega) (by omega) ?_ | refine eqv_u64 (by omega) (by omega) ?_ | refine eqv_u8 (by omega) (by omega) ?_ | refine eqv_to _ (set_map rfl rfl) ?_ | refine ⟨_, _, (by first | rfl | assumption), at_map (by assumption), ?_⟩ | refine ⟨_, _, (by first | rfl | assumption), (by assumption), ?_⟩ | refine ⟨_, at_map (by assumption), (by decide), ?_⟩ | refine ⟨_, at_map (by assumption), ?_⟩ | (refine (?_ : _ ≤ 140737488355328); simp [rowsLen] <;> omega) | (refine (?_ : _ ≤ 9223372036854775807); simp [rowsLen] <;> omega) | (refine (?_ : _ = rowsLen _); simp [rowsLen] <;> omega) | refine eqv_to _ (app_row rfl) (eqv_to _ app_len ?_) | refine eqv_to _ (app_first rfl) (eqv_to 1 rfl ?_) | refine idx_sl (at_map (by assumption)) (by omega) ?_ | refine idx_ms _ (by first | rfl | assumption) (by first | assumption | omega) ?_ | fail)
    exact congrArg (vint .i64) (idxB_none fun j hj => hall j (by omega)).symm

theorem c_any_opt (l : List Opt) (f : FuncId) (caps : List PV) (p : Opt → Bool) (hl : l.length ≤ 100000) (hf : ∀ x ∈ l, PCall Tryz.prog f (ag (Opt.row x) :: pvs caps) (fun r => r = vbool (p x))) :
    PCall Tryz.prog 54 [.pv (.sl 6 (l.map Opt.row)), .pv (.fn f caps)] (fun r => r = vbool (l.any p)) := by
  refine acall_of tok mixed 9 rfl (fn := Tryz.f54) (c := Tryz.f54.body.getD .skip) (by kernel_rfl) (by kernel_rfl) (by kernel_rfl) rfl 0 rfl ?_
  repeat' (first | refine o1 ?_ | refine o2 ?_ | refine k1 ?_ | refine k2 ?_ | refine k3 ?_ | refine k4 ?_ | refine k6 ?_ | refine k7 ?_ | refine k8 ?_ | refine And.intro ?_ ?_ | exact trivial | refine o3 ?_ | refine o4 ?_ | refine o5 ?_ | refine o6 ?_ | refine k5 ?_ | (intro h; first | exact Bool.noConfusion h | exact nz _ h | exact nl h | (simp at h; done) | (simp at h; first | (exfalso; omega) | skip) | skip) | (change retOk _ _ _ _; refine ret_pure rfl trivial ?_) | exact (rfl : allOne _ = true) | (refine (?_ : (0 : Int) ≤ _); omega) | (refine (?_ : _ ≠ _); omega) | (refine (?_ : srcLen _ = rowsLen _); rfl) | exact Nat.le_of_ble_eq_true rfl | exact (by kernel_rfl : drawOk _ _ = true) | refine eqv_len_map ?_ | refine eqv_size ?_ | refine eqv_put (eqv_ck ?_) | refine eqv_zero ?_ | refine eqv_wrap (by omega) (by omega) ?_ | refine eqv_u64 (by omega) (by omega) ?_ | refine eqv_u8 (by omega) (by omega) ?_ | refine eqv_to _ (set_map rfl rfl) ?_ | refine ⟨_, _, (by first | rfl | assumption), at_map (by assumption), ?_⟩ | refine ⟨_, _, (by first | rfl | assumption), (by assumption), ?_⟩ | refine ⟨_, at_map (by assumption), (by decide), ?_⟩ | refine ⟨_, at_map (by assumption), ?_⟩ | (refine (?_ : _ ≤ 140737488355328); simp [rowsLen] <;> omega) | (refine (?_ : _ ≤ 9223372036854775807); simp [rowsLen] <;> omega) | (refine (?_ : _ = rowsLen _); simp [rowsLen] <;> omega) | refine eqv_to _ (app_row rfl) (eqv_to _ app_len ?_) | refine eqv_to _ (app_first rfl) (eqv_to 1 rfl ?_) | refine idx_sl (at_map (by assumption)) (by omega) ?_ | refine idx_ms _ (by first | rfl | assumption) (by first | assumption | omega) ?_ | (change vcFun _ _ _ _ _; refine call_eq rfl (by repeat' (first | trivial | refine And.intro ?_ ?_ | (show 0 + _ ≤ List.length _; simp))) ALeL.refl (c_index_opt l f caps p hl hf) rfl ?_) | fail)
  exact congrArg vbool idxB_any

theorem c_index_count (l : List Count) (f : FuncId) (caps : List PV) (p : Count → Bool) (hl : l.length ≤ 100000) (hf : ∀ x ∈ l, PCall Tryz.prog f (ag (Count.row x) :: pvs caps) (fun r => r = vbool (p x))) :
    PCall Tryz.prog 103 [.pv (.sl 4 (l.map Count.row)), .pv (.fn f caps)] (fun r => r = vint .i64 (idxB p l)) := by
  refine acall_of tok mixed 19 rfl (fn := Tryz.f103) (c := Tryz.f103.body.getD .skip) (by kernel_rfl) (by kernel_rfl) (by kernel_rfl) rfl 0 rfl ?_
  repeat' (first | refine o1 ?_ | refine o2 ?_ | refine k1 ?_ | refine k2 ?_ | refine k3 ?_ | refine k4 ?_ | refine k6 ?_ | refine k7 ?_ | refine k8 ?_ | refine And.intro ?_ ?_ | exact trivial | refine o3 ?_ | refine o4 ?_ | refine o5 ?_ | refine o6 ?_ | refine k5 ?_ | (intro h; first | exact Bool.noConfusion h | exact nz _ h | exact nl h | (simp at h; done) | (simp at h; first | (exfalso; omega) | skip) | skip) | (change retOk _ _ _ _; refine ret_pure rfl trivial ?_) | exact (rfl : allOne _ = true) | (refine (?_ : (0 : Int) ≤ _); omega) | (refine (?_ : _ ≠ _); omega) | (refine (?_ : srcLen _ = rowsLen _); rfl) | exact Nat.le_of_ble_eq_true rfl | exact (by kernel_rfl : drawOk _ _ = true) | refine eqv_len_map ?_ | refine eqv_size ?_ | refine eqv_put (eqv_ck ?_) | refine eqv_zero ?_ | refine eqv_wrap (by omega) (by omega) ?_ | refine eqv_u64 (by omega) (by omega) ?_ | refine eqv_u8 (by omega) (by omega) ?_ | refine eqv_to _ (set_map rfl rfl) ?_ | refine ⟨_, _, (by first | rfl | assumption), at_map (by assumption), ?_⟩ | refine ⟨_, _, (by first | rfl | assumption), (by assumption), ?_⟩ | refine ⟨_, at_map (by assumption), (by decide), ?_⟩ | refine ⟨_, at_map (by assumption), ?_⟩ | (refine (?_ : _ ≤ 140737488355328); simp [rowsLen] <;> omega) | (refine (?_ : _ ≤ 9223372036854775807); simp [rowsLen] <;> omega) | (refine (?_ : _ = rowsLen _); simp [rowsLen] <;> omega) | refine eqv_to _ (app_row rfl) (eqv_to _ app_len ?_) | refine eqv_to _ (app_first rfl) (eqv_to 1 rfl ?_) | refine idx_sl (at_map (by assumption)) (by omega) ?_ | refine idx_ms _ (by first | rfl | assumption) (by first | assumption | omega) ?_ | fail)
  refine loop_at (fun i : Nat => [(8, vint .i64 i)]) (fun _ => []) (fun i => i ≤ l.length ∧ ∀ j, j < i → ∀ y, l[j]? = some y → p y = false) (fun i => l.length - i) 0 ⟨by omega, fun j hj => by omega⟩ (by repeat' (first | exact trivial | exact rfl | exact ⟨_, rfl, ALe.refl⟩ | refine And.intro ?_ ?_)) (by repeat' (first | exact trivial | exact rfl | exact ⟨_, rfl, ALe.refl⟩ | refine And.intro ?_ ?_)) ?_
  intro i ⟨hi, hall⟩
  rcases Nat.lt_or_ge i l.length with hlt | hge
  · obtain ⟨x, hx⟩ := getE hlt
    have hm := List.mem_of_getElem? hx
    repeat' (first | refine o1 ?_ | refine o2 ?_ | refine k1 ?_ | refine k2 ?_ | refine k3 ?_ | refine k4 ?_ | refine k6 ?_ | refine k7 ?_ | refine k8 ?_ | refine And.intro ?_ ?_ | exact trivial | refine o3 ?_ | refine o4 ?_ | refine o5 ?_ | refine o6 ?_ | refine k5 ?_ | (intro h; first | exact Bool.noConfusion h | exact nz _ h | exact nl h | (simp at h; done) | (simp at h; first | (exfalso; omega) | skip) | skip) | (change retOk _ _ _ _; refine ret_pure rfl trivial ?_) | exact (rfl : allOne _ = true) | (refine (?_ : (0 : Int) ≤ _); omega) | (refine (?_ : _ ≠ _); omega) | (refine (?_ : srcLen _ = rowsLen _); rfl) | exact Nat.le_of_ble_eq_true rfl | exact (by kernel_rfl : drawOk _ _ = true) | refine eqv_len_map ?_ | refine eqv_size ?_ | refine eqv_put (eqv_ck ?_) | refine eqv_zero ?_ | refine eqv_wrap (by omega) (by omega) ?_ | refine eqv_u64 (by omega) (by omega) ?_ | refine eqv_u8 (by omega) (by omega) ?_ | refine eqv_to _ (set_map rfl rfl) ?_ | refine ⟨_, _, (by first | rfl | assumption), at_map (by assumption), ?_⟩ | refine ⟨_, _, (by first | rfl | assumption), (by assumption), ?_⟩ | refine ⟨_, at_map (by assumption), (by decide), ?_⟩ | refine ⟨_, at_map (by assumption), ?_⟩ | (refine (?_ : _ ≤ 140737488355328); simp [rowsLen] <;> omega) | (refine (?_ : _ ≤ 9223372036854775807); simp [rowsLen] <;> omega) | (refine (?_ : _ = rowsLen _); simp [rowsLen] <;> omega) | refine eqv_to _ (app_row rfl) (eqv_to _ app_len ?_) | refine eqv_to _ (app_first rfl) (eqv_to 1 rfl ?_) | refine idx_sl (at_map (by assumption)) (by omega) ?_ | refine idx_ms _ (by first | rfl | assumption) (by first | assumption | omega) ?_ | (change vcFun _ _ (_ ++ pvs _) _ _; refine call_cap rfl (by repeat' (first | trivial | refine And.intro ?_ ?_ | (show 0 + _ ≤ List.length _; simp))) (hf x hm) rfl ?_) | fail)
    all_goals first
      | exact ⟨i + 1, ⟨by omega, all_lt_succ hall fun y hy => by rw [hx] at hy; cases hy; assumption⟩, by omega, back [] rfl rfl trivial (by repeat' (first | exact trivial | exact rfl | exact ⟨_, rfl, ALe.refl⟩ | refine And.intro ?_ ?_))⟩
      | exact congrArg (vint .i64) (idxB_at hall hx (by assumption)).symm
  · repeat' (first | refine o1 ?_ | refine o2 ?_ | refine k1 ?_ | refine k2 ?_ | refine k3 ?_ | refine k4 ?_ | refine k6 ?_ | refine k7 ?_ | refine k8 ?_ | refine And.intro ?_ ?_ | exact trivial | refine o3 ?_ | refine o4 ?_ | refine o5 ?_ | refine o6 ?_ | refine k5 ?_ | (intro h; first | exact Bool.noConfusion h | exact nz _ h | exact nl h | (simp at h; done) | (simp at h; first | (exfalso; omega) | skip) | skip) | (change retOk _ _ _ _; refine ret_pure rfl trivial ?_) | exact (rfl : allOne _ = true) | (refine (?_ : (0 : Int) ≤ _); omega) | (refine (?_ : _ ≠ _); omega) | (refine (?_ : srcLen _ = rowsLen _); rfl) | exact Nat.le_of_ble_eq_true rfl | exact (by kernel_rfl : drawOk _ _ = true) | refine eqv_len_map ?_ | refine eqv_size ?_ | refine eqv_put (eqv_ck ?_) | refine eqv_zero ?_ | refine eqv_wrap (by omega) (by omega) ?_ | refine eqv_u64 (by omega) (by omega) ?_ | refine eqv_u8 (by omega) (by omega) ?_ | refine eqv_to _ (set_map rfl rfl) ?_ | refine ⟨_, _, (by first | rfl | assumption), at_map (by assumption), ?_⟩ | refine ⟨_, _, (by first | rfl | assumption), (by assumption), ?_⟩ | refine ⟨_, at_map (by assumption), (by decide), ?_⟩ | refine ⟨_, at_map (by assumption), ?_⟩ | (refine (?_ : _ ≤ 140737488355328); simp [rowsLen] <;> omega) | (refine (?_ : _ ≤ 9223372036854775807); simp [rowsLen] <;> omega) | (refine (?_ : _ = rowsLen _); simp [rowsLen] <;> omega) | refine eqv_to _ (app_row rfl) (eqv_to _ app_len ?_) | refine eqv_to _ (app_first rfl) (eqv_to 1 rfl ?_) | refine idx_sl (at_map (by assumption)) (by omega) ?_ | refine idx_ms _ (by first | rfl | assumption) (by first | assumption | omega) ?_ | fail)
    exact congrArg (vint .i64) (idxB_none fun j hj => hall j (by omega)).symm

theorem c_any_count (l : List Count) (f : FuncId) (caps : List PV) (p : Count → Bool) (hl : l.length ≤ 100000) (hf : ∀ x ∈ l, PCall Tryz.prog f (ag (Count.row x) :: pvs caps) (fun r => r = vbool (p x))) :
    PCall Tryz.prog 59 [.pv (.sl 4 (l.map Count.row)), .pv (.fn f caps)] (fun r => r = vbool (l.any p)) := by
  refine acall_of tok mixed 9 rfl (fn := Tryz.f59) (c := Tryz.f59.body.getD .skip) (by kernel_rfl) (by kernel_rfl) (by kernel_rfl) rfl 0 rfl ?_
  repeat' (first | refine o1 ?_ | refine o2 ?_ | refine k1 ?_ | refine k2 ?_ | refine k3 ?_ | refine k4 ?_ | refine k6 ?_ | refine k7 ?_ | refine k8 ?_ | refine And.intro ?_ ?_ | exact trivial | refine o3 ?_ | refine o4 ?_ | refine o5 ?_ | refine o6 ?_ | refine k5 ?_ | (intro h; first | exact Bool.noConfusion h | exact nz _ h | exact nl h | (simp at h; done) | (simp at h; first | (exfalso; omega) | skip) | skip) | (change retOk _ _ _ _; refine ret_pure rfl trivial ?_) | exact (rfl : allOne _ = true) | (refine (?_ : (0 : Int) ≤ _); omega) | (refine (?_ : _ ≠ _); omega) | (refine (?_ : srcLen _ = rowsLen _); rfl) | exact Nat.le_of_ble_eq_true rfl | exact (by kernel_rfl : drawOk _ _ = true) | refine eqv_len_map ?_ | refine eqv_size ?_ | refine eqv_put (eqv_ck ?_) | refine eqv_zero ?_ | refine eqv_wrap (by omega) (by omega) ?_ | refine eqv_u64 (by omega) (by omega) ?_ | refine eqv_u8 (by omega) (by omega) ?_ | refine eqv_to _ (set_map rfl rfl) ?_ | refine ⟨_, _, (by first | rfl | assumption), at_map (by assumption), ?_⟩ | refine ⟨_, _, (by first | rfl | assumption), (by assumption), ?_⟩ | refine ⟨_, at_map (by assumption), (by decide), ?_⟩ | refine ⟨_, at_map (by assumption), ?_⟩ | (refine (?_ : _ ≤ 140737488355328); simp [rowsLen] <;> omega) | (refine (?_ : _ ≤ 9223372036854775807); simp [rowsLen] <;> omega) | (refine (?_ : _ = rowsLen _); simp [rowsLen] <;> omega) | refine eqv_to _ (app_row rfl) (eqv_to _ app_len ?_) | refine eqv_to _ (app_first rfl) (eqv_to 1 rfl ?_) | refine idx_sl (at_map (by assumption)) (by omega) ?_ | refine idx_ms _ (by first | rfl | assumption) (by first | assumption | omega) ?_ | (change vcFun _ _ _ _ _; refine call_eq rfl (by repeat' (first | trivial | refine And.intro ?_ ?_ | (show 0 + _ ≤ List.length _; simp))) ALeL.refl (c_index_count l f caps p hl hf) rfl ?_) | fail)
  exact congrArg vbool idxB_any

theorem c_index_opts (l : List (List Opt)) (f : FuncId) (caps : List PV) (p : (List Opt) → Bool) (hl : l.length ≤ 100000) (hf : ∀ x ∈ l, PCall Tryz.prog f (AV.pv (PV.sl 6 (List.map Opt.row x)) :: pvs caps) (fun r => r = vbool (p x))) :
    PCall Tryz.prog 137 [.pv (.sl 1 (l.map optsRow)), .pv (.fn f caps)] (fun r => r = vint .i64 (idxB p l)) := by
  refine acall_of tok mixed 19 rfl (fn := Tryz.f137) (c := Tryz.f137.body.getD .skip) (by kernel_rfl) (by kernel_rfl) (by kernel_rfl) rfl 0 rfl ?_
  repeat' (first | refine o1 ?_ | refine o2 ?_ | refine k1 ?_ | refine k2 ?_ | refine k3 ?_ | refine k4 ?_ | refine k6 ?_ | refine k7 ?_ | refine k8 ?_ | refine And.intro ?_ ?_ | exact trivial | refine o3 ?_ | refine o4 ?_ | refine o5 ?_ | refine o6 ?_ | refine k5 ?_ | (intro h; first | exact Bool.noConfusion h | exact nz _ h | exact nl h | (simp at h; done) | (simp at h; first | (exfalso; omega) | skip) | skip) | (change retOk _ _ _ _; refine ret_pure rfl trivial ?_) | exact (rfl : allOne _ = true) | (refine (?_ : (0 : Int) ≤ _); omega) | (refine (?_ : _ ≠ _); omega) | (refine (?_ : srcLen _ = rowsLen _); rfl) | exact Nat.le_of_ble_eq_true rfl | exact (by kernel_rfl : drawOk _ _ = true) | refine eqv_len_map ?_ | refine eqv_size ?_ | refine eqv_put (eqv_ck ?_) | refine eqv_zero ?_ | refine eqv_wrap (by omega) (by omega) ?_ | refine eqv_u64 (by omega) (by omega) ?_ | refine eqv_u8 (by omega) (by omega) ?_ | refine eqv_to _ (set_map rfl rfl) ?_ | refine ⟨_, _, (by first | rfl | assumption), at_map (by assumption), ?_⟩ | refine ⟨_, _, (by first | rfl | assumption), (by assumption), ?_⟩ | refine ⟨_, at_map (by assumption), (by decide), ?_⟩ | refine ⟨_, at_map (by assumption), ?_⟩ | (refine (?_ : _ ≤ 140737488355328); simp [rowsLen] <;> omega) | (refine (?_ : _ ≤ 9223372036854775807); simp [rowsLen] <;> omega) | (refine (?_ : _ = rowsLen _); simp [rowsLen] <;> omega) | refine eqv_to _ (app_row rfl) (eqv_to _ app_len ?_) | refine eqv_to _ (app_first rfl) (eqv_to 1 rfl ?_) | refine idx_sl (at_map (by assumption)) (by omega) ?_ | refine idx_ms _ (by first | rfl | assumption) (by first | assumption | omega) ?_ | fail)
  refine loop_at (fun i : Nat => [(8, vint .i64 i)]) (fun _ => []) (fun i => i ≤ l.length ∧ ∀ j, j < i → ∀ y, l[j]? = some y → p y = false) (fun i => l.length - i) 0 ⟨by omega, fun j hj => by omega⟩ (by repeat' (first | exact trivial | exact rfl | exact ⟨_, rfl, ALe.refl⟩ | refine And.intro ?_ ?_)) (by repeat' (first | exact trivial | exact rfl | exact ⟨_, rfl, ALe.refl⟩ | refine And.intro ?_ ?_)) ?_
  intro i ⟨hi, hall⟩
  rcases Nat.lt_or_ge i l.length with hlt | hge
  · obtain ⟨x, hx⟩ := getE hlt
    have hm := List.mem_of_getElem? hx
    repeat' (first | refine o1 ?_ | refine o2 ?_ | refine k1 ?_ | refine k2 ?_ | refine k3 ?_ | refine k4 ?_ | refine k6 ?_ | refine k7 ?_ | refine k8 ?_ | refine And.intro ?_ ?_ | exact trivial | refine o3 ?_ | refine o4 ?_ | refine o5 ?_ | refine o6 ?_ | refine k5 ?_ | (intro h; first | exact Bool.noConfusion h | exact nz _ h | exact nl h | (simp at h; done) | (simp at h; first | (exfalso; omega) | skip) | skip) | (change retOk _ _ _ _; refine ret_pure rfl trivial ?_) | exact (rfl : allOne _ = true) | (refine (?_ : (0 : Int) ≤ _); omega) | (refine (?_ : _ ≠ _); omega) | (refine (?_ : srcLen _ = rowsLen _); rfl) | exact Nat.le_of_ble_eq_true rfl | exact (by kernel_rfl : drawOk _ _ = true) | refine eqv_len_map ?_ | refine eqv_size ?_ | refine eqv_put (eqv_ck ?_) | refine eqv_zero ?_ | refine eqv_wrap (by omega) (by omega) ?_ | refine eqv_u64 (by omega) (by omega) ?_ | refine eqv_u8 (by omega) (by omega) ?_ | refine eqv_to _ (set_map rfl rfl) ?_ | refine ⟨_, _, (by first | rfl | assumption), at_map (by assumption), ?_⟩ | refine ⟨_, _, (by first | rfl | assumption), (by assumption), ?_⟩ | refine ⟨_, at_map (by assumption), (by decide), ?_⟩ | refine ⟨_, at_map (by assumption), ?_⟩ | (refine (?_ : _ ≤ 140737488355328); simp [rowsLen] <;> omega) | (refine (?_ : _ ≤ 9223372036854775807); simp [rowsLen] <;> omega) | (refine (?_ : _ = rowsLen _); simp [rowsLen] <;> omega) | refine eqv_to _ (app_row rfl) (eqv_to _ app_len ?_) | refine eqv_to _ (app_first rfl) (eqv_to 1 rfl ?_) | refine idx_sl (at_map (by assumption)) (by omega) ?_ | refine idx_ms _ (by first | rfl | assumption) (by first | assumption | omega) ?_ | (change vcFun _ _ (_ ++ pvs _) _ _; refine call_cap rfl (by repeat' (first | trivial | refine And.intro ?_ ?_ | (show 0 + _ ≤ List.length _; simp))) (hf x hm) rfl ?_) | fail)
    all_goals first
      | exact ⟨i + 1, ⟨by omega, all_lt_succ hall fun y hy => by rw [hx] at hy; cases hy; assumption⟩, by omega, back [] rfl rfl trivial (by repeat' (first | exact trivial | exact rfl | exact ⟨_, rfl, ALe.refl⟩ | refine And.intro ?_ ?_))⟩
      | exact congrArg (vint .i64) (idxB_at hall hx (by assumption)).symm
  · repeat' (first | refine o1 ?_ | refine o2 ?_ | refine k1 ?_ | refine k2 ?_ | refine k3 ?_ | refine k4 ?_ | refine k6 ?_ | refine k7 ?_ | refine k8 ?_ | refine And.intro ?_ ?_ | exact trivial | refine o3 ?_ | refine o4 ?_ | refine o5 ?_ | refine o6 ?_ | refine k5 ?_ | (intro h; first | exact Bool.noConfusion h | exact nz _ h | exact nl h | (simp at h; done) | (simp at h; first | (exfalso; omega) | skip) | skip) | (change retOk _ _ _ _; refine ret_pure rfl trivial ?_) | exact (rfl : allOne _ = true) | (refine (?_ : (0 : Int) ≤ _); omega) | (refine (?_ : _ ≠ _); omega) | (refine (?_ : srcLen _ = rowsLen _); rfl) | exact Nat.le_of_ble_eq_true rfl | exact (by kernel_rfl : drawOk _ _ = true) | refine eqv_len_map ?_ | refine eqv_size ?_ | refine eqv_put (eqv_ck ?_) | refine eqv_zero ?_ | refine eqv_wrap (by omega) (by omega) ?_ | refine eqv_u64 (by omega) (by omega) ?_ | refine eqv_u8 (by omega) (by omega) ?_ | refine eqv_to _ (set_map rfl rfl) ?_ | refine ⟨_, _, (by first | rfl | assumption), at_map (by assumption), ?_⟩ | refine ⟨_, _, (by first | rfl | assumption), (by assumption), ?_⟩ | refine ⟨_, at_map (by assumption), (by decide), ?_⟩ | refine ⟨_, at_map (by assumption), ?_⟩ | (refine (?_ : _ ≤ 140737488355328); simp [rowsLen] <;> omega) | (refine (?_ : _ ≤ 9223372036854775807); simp [rowsLen] <;> omega) | (refine (?_ : _ = rowsLen _); simp [rowsLen] <;> omega) | refine eqv_to _ (app_row rfl) (eqv_to _ app_len ?_) | refine eqv_to _ (app_first rfl) (eqv_to 1 rfl ?_) | refine idx_sl (at_map (by assumption)) (by omega) ?_ | refine idx_ms _ (by first | rfl | assumption) (by first | assumption | omega) ?_ | fail)
    exact congrArg (vint .i64) (idxB_none fun j hj => hall j (by omega)).symm

theorem c_any_opts (l : List (List Opt)) (f : FuncId) (caps : List PV) (p : (List Opt) → Bool) (hl : l.length ≤ 100000) (hf : ∀ x ∈ l, PCall Tryz.prog f (AV.pv (PV.sl 6 (List.map Opt.row x)) :: pvs caps) (fun r => r = vbool (p x))) :
    PCall Tryz.prog 95 [.pv (.sl 1 (l.map optsRow)), .pv (.fn f caps)] (fun r => r = vbool (l.any p)) := by
  refine acall_of tok mixed 9 rfl (fn := Tryz.f95) (c := Tryz.f95.body.getD .skip) (by kernel_rfl) (by kernel_rfl) (by kernel_rfl) rfl 0 rfl ?_
  repeat' (first | refine o1 ?_ | refine o2 ?_ | refine k1 ?_ | refine k2 ?_ | refine k3 ?_ | refine k4 ?_ | refine k6 ?_ | refine k7 ?_ | refine k8 ?_ | refine And.intro ?_ ?_ | exact trivial | refine o3 ?_ | refine o4 ?_ | refine o5 ?_ | refine o6 ?_ | refine k5 ?_ | (intro h; first | exact Bool.noConfusion h | exact nz _ h | exact nl h | (simp at h; done) | (simp at h; first | (exfalso; omega) | skip) | skip) | (change retOk _ _ _ _; refine ret_pure rfl trivial ?_) | exact (rfl : allOne _ = true) | (refine (?_ : (0 : Int) ≤ _); omega) | (refine (?_ : _ ≠ _); omega) | (refine (?_ : srcLen _ = rowsLen _); rfl) | exact Nat.le_of_ble_eq_true rfl | exact (by kernel_rfl : drawOk _ _ = true) | refine eqv_len_map ?_ | refine eqv_size ?_ | refine eqv_put (eqv_ck ?_) | refine eqv_zero ?_ | refine eqv_wrap (by omega) (by omega) ?_ | refine eqv_u64 (by omega) (by omega) ?_ | refine eqv_u8 (by omega) (by omega) ?_ | refine eqv_to _ (set_map rfl rfl) ?_ | refine ⟨_, _, (by first | rfl | assumption), at_map (by assumption), ?_⟩ | refine ⟨_, _, (by first | rfl | assumption), (by assumption), ?_⟩ | refine ⟨_, at_map (by assumption), (by decide), ?_⟩ | refine ⟨_, at_map (by assumption), ?_⟩ | (refine (?_ : _ ≤ 140737488355328); simp [rowsLen] <;> omega) | (refine (?_ : _ ≤ 9223372036854775807); simp [rowsLen] <;> omega) | (refine (?_ : _ = rowsLen _); simp [rowsLen] <;> omega) | refine eqv_to _ (app_row rfl) (eqv_to _ app_len ?_) | refine eqv_to _ (app_first rfl) (eqv_to 1 rfl ?_) | refine idx_sl (at_map (by assumption)) (by omega) ?_ | refine idx_ms _ (by first | rfl | assumption) (by first | assumption | omega) ?_ | (change vcFun _ _ _ _ _; refine call_eq rfl (by repeat' (first | trivial | refine And.intro ?_ ?_ | (show 0 + _ ≤ List.length _; simp))) ALeL.refl (c_index_opts l f caps p hl hf) rfl ?_) | fail)
  exact congrArg vbool idxB_any

theorem c_index_int (l : List Int) (f : FuncId) (caps : List PV) (p : Int → Bool) (hl : l.length ≤ 100000) (hf : ∀ x ∈ l, PCall Tryz.prog f (vint .i64 x :: pvs caps) (fun r => r = vbool (p x))) :
    PCall Tryz.prog 138 [.pv (.sl 1 (l.map (fun n => [ei n]))), .pv (.fn f caps)] (fun r => r = vint .i64 (idxB p l)) := by
  refine acall_of tok mixed 19 rfl (fn := Tryz.f138) (c := Tryz.f138.body.getD .skip) (by kernel_rfl) (by kernel_rfl) (by kernel_rfl) rfl 0 rfl ?_
  repeat' (first | refine o1 ?_ | refine o2 ?_ | refine k1 ?_ | refine k2 ?_ | refine k3 ?_ | refine k4 ?_ | refine k6 ?_ | refine k7 ?_ | refine k8 ?_ | refine And.intro ?_ ?_ | exact trivial | refine o3 ?_ | refine o4 ?_ | refine o5 ?_ | refine o6 ?_ | refine k5 ?_ | (intro h; first | exact Bool.noConfusion h | exact nz _ h | exact nl h | (simp at h; done) | (simp at h; first | (exfalso; omega) | skip) | skip) | (change retOk _ _ _ _; refine ret_pure rfl trivial ?_) | exact (rfl : allOne _ = true) | (refine (?_ : (0 : Int) ≤ _); omega) | (refine (?_ : _ ≠ _); omega) | (refine (?_ : srcLen _ = rowsLen _); rfl) | exact Nat.le_of_ble_eq_true rfl | exact (by kernel_rfl : drawOk _ _ = true) | refine eqv_len_map ?_ | refine eqv_size ?_ | refine eqv_put (eqv_ck ?_) | refine eqv_zero ?_ | refine eqv_wrap (by omega) (by omega) ?_ | refine eqv_u64 (by omega) (by omega) ?_ | refine eqv_u8 (by omega) (by omega) ?_ | refine eqv_to _ (set_map rfl rfl) ?_ | refine ⟨_, _, (by first | rfl | assumption), at_map (by assumption), ?_⟩ | refine ⟨_, _, (by first | rfl | assumption), (by assumption), ?_⟩ | refine ⟨_, at_map (by assumption), (by decide), ?_⟩ | refine ⟨_, at_map (by assumption), ?_⟩ | (refine (?_ : _ ≤ 140737488355328); simp [rowsLen] <;> omega) | (refine (?_ : _ ≤ 9223372036854775807); simp [rowsLen] <;> omega) | (refine (?_ : _ = rowsLen _); simp [rowsLen] <;> omega) | refine eqv_to _ (app_row rfl) (eqv_to _ app_len ?_) | refine eqv_to _ (app_first rfl) (eqv_to 1 rfl ?_) | refine idx_sl (at_map (by assumption)) (by omega) ?_ | refine idx_ms _ (by first | rfl | assumption) (by first | assumption | omega) ?_ | fail)
  refine loop_at (fun i : Nat => [(8, vint .i64 i)]) (fun _ => []) (fun i => i ≤ l.length ∧ ∀ j, j < i → ∀ y, l[j]? = some y → p y = false) (fun i => l.length - i) 0 ⟨by omega, fun j hj => by omega⟩ (by repeat' (first | exact trivial | exact rfl | exact ⟨_, rfl, ALe.refl⟩ | refine And.intro ?_ ?_)) (by repeat' (first | exact trivial | exact rfl | exact ⟨_, rfl, ALe.refl⟩ | refine And.intro ?_ ?_)) ?_
  intro i ⟨hi, hall⟩
  rcases Nat.lt_or_ge i l.length with hlt | hge
  · obtain ⟨x, hx⟩ := getE hlt
    have hm := List.mem_of_getElem? hx
    repeat' (first | refine o1 ?_ | refine o2 ?_ | refine k1 ?_ | refine k2 ?_ | refine k3 ?_ | refine k4 ?_ | refine k6 ?_ | refine k7 ?_ | refine k8 ?_ | refine And.intro ?_ ?_ | exact trivial | refine o3 ?_ | refine o4 ?_ | refine o5 ?_ | refine o6 ?_ | refine k5 ?_ | (intro h; first | exact Bool.noConfusion h | exact nz _ h | exact nl h | (simp at h; done) | (simp at h; first | (exfalso; omega) | skip) | skip) | (change retOk _ _ _ _; refine ret_pure rfl trivial ?_) | exact (rfl : allOne _ = true) | (refine (?_ : (0 : Int) ≤ _); omega) | (refine (?_ : _ ≠ _); omega) | (refine (?_ : srcLen _ = rowsLen _); rfl) | exact Nat.le_of_ble_eq_true rfl | exact (by kernel_rfl : drawOk _ _ = true) | refine eqv_len_map ?_ | refine eqv_size ?_ | refine eqv_put (eqv_ck ?_) | refine eqv_zero ?_ | refine eqv_wrap (by omega) (by omega) ?_ | refine eqv_u64 (by omega) (by omega) ?_ | refine eqv_u8 (by omega) (by omega) ?_ | refine eqv_to _ (set_map rfl rfl) ?_ | refine ⟨_, _, (by first | rfl | assumption), at_map (by assumption), ?_⟩ | refine ⟨_, _, (by first | rfl | assumption), (by assumption), ?_⟩ | refine ⟨_, at_map (by assumption), (by decide), ?_⟩ | refine ⟨_, at_map (by assumption), ?_⟩ | (refine (?_ : _ ≤ 140737488355328); simp [rowsLen] <;> omega) | (refine (?_ : _ ≤ 9223372036854775807); simp [rowsLen] <;> omega) | (refine (?_ : _ = rowsLen _); simp [rowsLen] <;> omega) | refine eqv_to _ (app_row rfl) (eqv_to _ app_len ?_) | refine eqv_to _ (app_first rfl) (eqv_to 1 rfl ?_) | refine idx_sl (at_map (by assumption)) (by omega) ?_ | refine idx_ms _ (by first | rfl | assumption) (by first | assumption | omega) ?_ | (change vcFun _ _ (_ ++ pvs _) _ _; refine call_cap rfl (by repeat' (first | trivial | refine And.intro ?_ ?_ | (show 0 + _ ≤ List.length _; simp))) (hf x hm) rfl ?_) | fail)
    all_goals first
      | exact ⟨i + 1, ⟨by omega, all_lt_succ hall fun y hy => by rw [hx] at hy; cases hy; assumption⟩, by omega, back [] rfl rfl trivial (by repeat' (first | exact trivial | exact rfl | exact ⟨_, rfl, ALe.refl⟩ | refine And.intro ?_ ?_))⟩
      | exact congrArg (vint .i64) (idxB_at hall hx (by assumption)).symm
  · repeat' (first | refine o1 ?_ | refine o2 ?_ | refine k1 ?_ | refine k2 ?_ | refine k3 ?_ | refine k4 ?_ | refine k6 ?_ | refine k7 ?_ | refine k8 ?_ | refine And.intro ?_ ?_ | exact trivial | refine o3 ?_ | refine o4 ?_ | refine o5 ?_ | refine o6 ?_ | refine k5 ?_ | (intro h; first | exact Bool.noConfusion h | exact nz _ h | exact nl h | (simp at h; done) | (simp at h; first | (exfalso; omega) | skip) | skip) | (change retOk _ _ _ _; refine ret_pure rfl trivial ?_) | exact (rfl : allOne _ = true) | (refine (?_ : (0 : Int) ≤ _); omega) | (refine (?_ : _ ≠ _); omega) | (refine (?_ : srcLen _ = rowsLen _); rfl) | exact Nat.le_of_ble_eq_true rfl | exact (by kernel_rfl : drawOk _ _ = true) | refine eqv_len_map ?_ | refine eqv_size ?_ | refine eqv_put (eqv_ck ?_) | refine eqv_zero ?_ | refine eqv_wrap (by omega) (by omega) ?_ | refine eqv_u64 (by omega) (by omega) ?_ | refine eqv_u8 (by omega) (by omega) ?_ | refine eqv_to _ (set_map rfl rfl) ?_ | refine ⟨_, _, (by first | rfl | assumption), at_map (by assumption), ?_⟩ | refine ⟨_, _, (by first | rfl | assumption), (by assumption), ?_⟩ | refine ⟨_, at_map (by assumption), (by decide), ?_⟩ | refine ⟨_, at_map (by assumption), ?_⟩ | (refine (?_ : _ ≤ 140737488355328); simp [rowsLen] <;> omega) | (refine (?_ : _ ≤ 9223372036854775807); simp [rowsLen] <;> omega) | (refine (?_ : _ = rowsLen _); simp [rowsLen] <;> omega) | refine eqv_to _ (app_row rfl) (eqv_to _ app_len ?_) | refine eqv_to _ (app_first rfl) (eqv_to 1 rfl ?_) | refine idx_sl (at_map (by assumption)) (by omega) ?_ | refine idx_ms _ (by first | rfl | assumption) (by first | assumption | omega) ?_ | fail)
    exact congrArg (vint .i64) (idxB_none fun j hj => hall j (by omega)).symm

theorem c_any_int (l : List Int) (f : FuncId) (caps : List PV) (p : Int → Bool) (hl : l.length ≤ 100000) (hf : ∀ x ∈ l, PCall Tryz.prog f (vint .i64 x :: pvs caps) (fun r => r = vbool (p x))) :
    PCall Tryz.prog 99 [.pv (.sl 1 (l.map (fun n => [ei n]))), .pv (.fn f caps)] (fun r => r = vbool (l.any p)) := by
  refine acall_of tok mixed 9 rfl (fn := Tryz.f99) (c := Tryz.f99.body.getD .skip) (by kernel_rfl) (by kernel_rfl) (by kernel_rfl) rfl 0 rfl ?_
  repeat' (first | refine o1 ?_ | refine o2 ?_ | refine k1 ?_ | refine k2 ?_ | refine k3 ?_ | refine k4 ?_ | refine k6 ?_ | refine k7 ?_ | refine k8 ?_ | refine And.intro ?_ ?_ | exact trivial | refine o3 ?_ | refine o4 ?_ | refine o5 ?_ | refine o6 ?_ | refine k5 ?_ | (intro h; first | exact Bool.noConfusion h | exact nz _ h | exact nl h | (simp at h; done) | (simp at h; first | (exfalso; omega) | skip) | skip) | (change retOk _ _ _ _; refine ret_pure rfl trivial ?_) | exact (rfl : allOne _ = true) | (refine (?_ : (0 : Int) ≤ _); omega) | (refine (?_ : _ ≠ _); omega) | (refine (?_ : srcLen _ = rowsLen _); rfl) | exact Nat.le_of_ble_eq_true rfl | exact (by kernel_rfl : drawOk _ _ = true) | refine eqv_len_map ?_ | refine eqv_size ?_ | refine eqv_put (eqv_ck ?_) | refine eqv_zero ?_ | refine eqv_wrap (by omega) (by omega) ?_ | refine eqv_u64 (by omega) (by omega) ?_ | refine eqv_u8 (by omega) (by omega) ?_ | refine eqv_to _ (set_map rfl rfl) ?_ | refine ⟨_, _, (by first | rfl | assumption), at_map (by assumption), ?_⟩ | refine ⟨_, _, (by first | rfl | assumption), (by assumption), ?_⟩ | refine ⟨_, at_map (by assumption), (by decide), ?_⟩ | refine ⟨_, at_map (by assumption), ?_⟩ | (refine (?_ : _ ≤ 140737488355328); simp [rowsLen] <;> omega) | (refine (?_ : _ ≤ 9223372036854775807); simp [rowsLen] <;> omega) | (refine (?_ : _ = rowsLen _); simp [rowsLen] <;> omega) | refine eqv_to _ (app_row rfl) (eqv_to _ app_len ?_) | refine eqv_to _ (app_first rfl) (eqv_to 1 rfl ?_) | refine idx_sl (at_map (by assumption)) (by omega) ?_ | refine idx_ms _ (by first | rfl | assumption) (by first | assumption | omega) ?_ | (change vcFun _ _ _ _ _; refine call_eq rfl (by repeat' (first | trivial | refine And.intro ?_ ?_ | (show 0 + _ ≤ List.length _; simp))) ALeL.refl (c_index_int l f caps p hl hf) rfl ?_) | fail)
  exact congrArg vbool idxB_any

theorem charge_zero {m : Model} {l : List Charge} {c : Charge} (hc : l[0]? = some c) (h1 : ruleP m c.rule) (h2 : priceP c.cost) : chargeAt m l 0 := fun c' h' => by
  rw [hc] at h'; cases h'
  exact ⟨h1, h2, fun k b e => by omega⟩
theorem charge_next {m : Model} {l : List Charge} {k : Nat} {c b : Charge} (hc : l[k + 1]? = some c) (hb : l[k]? = some b) (h1 : ruleP m c.rule) (h2 : priceP c.cost) (h3 : b.rule < c.rule) : chargeAt m l (k + 1) := fun c' h' => by
  rw [hc] at h'; cases h'
  refine ⟨h1, h2, fun k' b' e hb' => ?_⟩
  obtain rfl : k = k' := by omega
  rw [hb] at hb'; cases hb'; exact h3
theorem sizedP_iff {m : Model} (h : ∀ l ∈ m.classes, l.length ≤ 24) : sizedP m ↔ m.classes.length ≤ 24 ∧ m.pairs.length ≤ 4000 ∧ m.counts.length ≤ 800 ∧ 0 ≤ m.rules ∧ m.rules ≤ 56 :=
  ⟨fun ⟨a, _, b⟩ => ⟨a, b⟩, fun ⟨a, b⟩ => ⟨a, h, b⟩⟩
theorem c_charged (m : Model) (o : Opt) (ho : o.charges.length ≤ 9223372036854775807) : PCall Tryz.prog 56 [ag m.cells, ag o.row] (fun r => r = vbool (pB (chargesP m o))) := by
  refine acall_of tok mixed 43 rfl (fn := Tryz.f56) (c := Tryz.f56.body.getD .skip) (by kernel_rfl) (by kernel_rfl) (by kernel_rfl) rfl 0 rfl ?_
  repeat' (first | refine o1 ?_ | refine o2 ?_ | refine k1 ?_ | refine k2 ?_ | refine k3 ?_ | refine k4 ?_ | refine k6 ?_ | refine k7 ?_ | refine k8 ?_ | refine And.intro ?_ ?_ | exact trivial | refine o3 ?_ | refine o4 ?_ | refine o5 ?_ | refine o6 ?_ | refine k5 ?_ | (intro h; first | exact Bool.noConfusion h | exact nz _ h | exact nl h | (simp at h; done) | (simp at h; first | (exfalso; omega) | skip) | skip) | (change retOk _ _ _ _; refine ret_pure rfl trivial ?_) | exact (rfl : allOne _ = true) | (refine (?_ : (0 : Int) ≤ _); omega) | (refine (?_ : _ ≠ _); omega) | (refine (?_ : srcLen _ = rowsLen _); rfl) | exact Nat.le_of_ble_eq_true rfl | exact (by kernel_rfl : drawOk _ _ = true) | refine eqv_len_map ?_ | refine eqv_size ?_ | refine eqv_put (eqv_ck ?_) | refine eqv_zero ?_ | refine eqv_wrap (by omega) (by omega) ?_ | refine eqv_u64 (by omega) (by omega) ?_ | refine eqv_u8 (by omega) (by omega) ?_ | refine eqv_to _ (set_map rfl rfl) ?_ | refine ⟨_, _, (by first | rfl | assumption), at_map (by assumption), ?_⟩ | refine ⟨_, _, (by first | rfl | assumption), (by assumption), ?_⟩ | refine ⟨_, at_map (by assumption), (by decide), ?_⟩ | refine ⟨_, at_map (by assumption), ?_⟩ | (refine (?_ : _ ≤ 140737488355328); simp [rowsLen] <;> omega) | (refine (?_ : _ ≤ 9223372036854775807); simp [rowsLen] <;> omega) | (refine (?_ : _ = rowsLen _); simp [rowsLen] <;> omega) | refine eqv_to _ (app_row rfl) (eqv_to _ app_len ?_) | refine eqv_to _ (app_first rfl) (eqv_to 1 rfl ?_) | refine idx_sl (at_map (by assumption)) (by omega) ?_ | refine idx_ms _ (by first | rfl | assumption) (by first | assumption | omega) ?_ | fail)
  refine loop_at (fun i : Nat => [(10, vint .i64 i)]) (fun _ => []) (fun i => i ≤ o.charges.length ∧ ∀ j, j < i → chargeAt m o.charges j) (fun i => o.charges.length - i) 0 ⟨by omega, fun j hj => by omega⟩ (by repeat' (first | exact trivial | exact rfl | exact ⟨_, rfl, ALe.refl⟩ | refine And.intro ?_ ?_)) (by repeat' (first | exact trivial | exact rfl | exact ⟨_, rfl, ALe.refl⟩ | refine And.intro ?_ ?_)) ?_
  intro i ⟨hi, hall⟩
  rcases Nat.lt_or_ge i o.charges.length with hlt | hge
  · obtain ⟨c, hc⟩ := getE hlt
    rcases i with _ | k
    · repeat' (first | refine o1 ?_ | refine o2 ?_ | refine k1 ?_ | refine k2 ?_ | refine k3 ?_ | refine k4 ?_ | refine k6 ?_ | refine k7 ?_ | refine k8 ?_ | refine And.intro ?_ ?_ | exact trivial | refine o3 ?_ | refine o4 ?_ | refine o5 ?_ | refine o6 ?_ | refine k5 ?_ | (intro h; first | exact Bool.noConfusion h | exact nz _ h | exact nl h | (simp at h; done) | (simp at h; first | (exfalso; omega) | skip) | skip) | (change retOk _ _ _ _; refine ret_pure rfl trivial ?_) | exact (rfl : allOne _ = true) | (refine (?_ : (0 : Int) ≤ _); omega) | (refine (?_ : _ ≠ _); omega) | (refine (?_ : srcLen _ = rowsLen _); rfl) | exact Nat.le_of_ble_eq_true rfl | exact (by kernel_rfl : drawOk _ _ = true) | refine eqv_len_map ?_ | refine eqv_size ?_ | refine eqv_put (eqv_ck ?_) | refine eqv_zero ?_ | refine eqv_wrap (by omega) (by omega) ?_ | refine eqv_u64 (by omega) (by omega) ?_ | refine eqv_u8 (by omega) (by omega) ?_ | refine eqv_to _ (set_map rfl rfl) ?_ | refine ⟨_, _, (by first | rfl | assumption), at_map (by assumption), ?_⟩ | refine ⟨_, _, (by first | rfl | assumption), (by assumption), ?_⟩ | refine ⟨_, at_map (by assumption), (by decide), ?_⟩ | refine ⟨_, at_map (by assumption), ?_⟩ | (refine (?_ : _ ≤ 140737488355328); simp [rowsLen] <;> omega) | (refine (?_ : _ ≤ 9223372036854775807); simp [rowsLen] <;> omega) | (refine (?_ : _ = rowsLen _); simp [rowsLen] <;> omega) | refine eqv_to _ (app_row rfl) (eqv_to _ app_len ?_) | refine eqv_to _ (app_first rfl) (eqv_to 1 rfl ?_) | refine idx_sl (at_map (by assumption)) (by omega) ?_ | refine idx_ms _ (by first | rfl | assumption) (by first | assumption | omega) ?_ | (change vcFunD _ _ _ _ _; refine callD_eq rfl (by repeat' (first | trivial | refine And.intro ?_ ?_ | (show 0 + _ ≤ List.length _; simp))) ALeL.refl (c_named m c.rule) rfl ?_) | (change vcFunD _ _ _ _ _; refine callD_eq rfl (by repeat' (first | trivial | refine And.intro ?_ ?_ | (show 0 + _ ≤ List.length _; simp))) ALeL.refl (c_cost c.cost) rfl ?_) | fail)
      all_goals first
        | (exfalso; omega)
        | (refine congrArg vbool (pB_f fun h => ?_).symm; obtain ⟨g1, g2, g3⟩ := h _ hlt c hc; first | exact absurd g1 (by assumption) | exact absurd g2 (by assumption))
        | exact ⟨1, ⟨by omega, all_lt_succ hall (charge_zero hc (by assumption) (by assumption))⟩, by omega, back [0, 1] rfl rfl ⟨rfl, rfl, trivial⟩ (by repeat' (first | exact trivial | exact rfl | exact ⟨_, rfl, ALe.refl⟩ | refine And.intro ?_ ?_))⟩
        | (exfalso; simp_all; done)
    · obtain ⟨b, hb⟩ := getE (show k < o.charges.length by omega)
      repeat' (first | (refine idx_sl (k := k + 1) (at_map hc) (by omega) ?_) | (refine idx_sl (k := k) (at_map hb) (by omega) ?_) | refine o1 ?_ | refine o2 ?_ | refine k1 ?_ | refine k2 ?_ | refine k3 ?_ | refine k4 ?_ | refine k6 ?_ | refine k7 ?_ | refine k8 ?_ | refine And.intro ?_ ?_ | exact trivial | refine o3 ?_ | refine o4 ?_ | refine o5 ?_ | refine o6 ?_ | refine k5 ?_ | (intro h; first | exact Bool.noConfusion h | exact nz _ h | exact nl h | (simp at h; done) | (simp at h; first | (exfalso; omega) | skip) | skip) | (change retOk _ _ _ _; refine ret_pure rfl trivial ?_) | exact (rfl : allOne _ = true) | (refine (?_ : (0 : Int) ≤ _); omega) | (refine (?_ : _ ≠ _); omega) | (refine (?_ : srcLen _ = rowsLen _); rfl) | exact Nat.le_of_ble_eq_true rfl | exact (by kernel_rfl : drawOk _ _ = true) | refine eqv_len_map ?_ | refine eqv_size ?_ | refine eqv_put (eqv_ck ?_) | refine eqv_zero ?_ | refine eqv_wrap (by omega) (by omega) ?_ | refine eqv_u64 (by omega) (by omega) ?_ | refine eqv_u8 (by omega) (by omega) ?_ | refine eqv_to _ (set_map rfl rfl) ?_ | refine ⟨_, _, (by first | rfl | assumption), at_map (by assumption), ?_⟩ | refine ⟨_, _, (by first | rfl | assumption), (by assumption), ?_⟩ | refine ⟨_, at_map (by assumption), (by decide), ?_⟩ | refine ⟨_, at_map (by assumption), ?_⟩ | (refine (?_ : _ ≤ 140737488355328); simp [rowsLen] <;> omega) | (refine (?_ : _ ≤ 9223372036854775807); simp [rowsLen] <;> omega) | (refine (?_ : _ = rowsLen _); simp [rowsLen] <;> omega) | refine eqv_to _ (app_row rfl) (eqv_to _ app_len ?_) | refine eqv_to _ (app_first rfl) (eqv_to 1 rfl ?_) | refine idx_sl (at_map (by assumption)) (by omega) ?_ | refine idx_ms _ (by first | rfl | assumption) (by first | assumption | omega) ?_ | (change vcFunD _ _ _ _ _; refine callD_eq rfl (by repeat' (first | trivial | refine And.intro ?_ ?_ | (show 0 + _ ≤ List.length _; simp))) ALeL.refl (c_named m c.rule) rfl ?_) | (change vcFunD _ _ _ _ _; refine callD_eq rfl (by repeat' (first | trivial | refine And.intro ?_ ?_ | (show 0 + _ ≤ List.length _; simp))) ALeL.refl (c_cost c.cost) rfl ?_) | fail)
      all_goals first
        | (exfalso; omega)
        | (refine congrArg vbool (pB_f fun h => ?_).symm; obtain ⟨g1, g2, g3⟩ := h _ hlt c hc; first | exact absurd g1 (by assumption) | exact absurd g2 (by assumption) | (have := g3 k b rfl hb; omega))
        | exact ⟨k + 2, ⟨by omega, all_lt_succ hall (charge_next hc hb (by assumption) (by assumption) (by omega))⟩, by omega, back [0, 1] rfl rfl ⟨rfl, rfl, trivial⟩ (by repeat' (first | exact trivial | exact rfl | exact ⟨_, rfl, ALe.refl⟩ | refine And.intro ?_ ?_))⟩
  · repeat' (first | refine o1 ?_ | refine o2 ?_ | refine k1 ?_ | refine k2 ?_ | refine k3 ?_ | refine k4 ?_ | refine k6 ?_ | refine k7 ?_ | refine k8 ?_ | refine And.intro ?_ ?_ | exact trivial | refine o3 ?_ | refine o4 ?_ | refine o5 ?_ | refine o6 ?_ | refine k5 ?_ | (intro h; first | exact Bool.noConfusion h | exact nz _ h | exact nl h | (simp at h; done) | (simp at h; first | (exfalso; omega) | skip) | skip) | (change retOk _ _ _ _; refine ret_pure rfl trivial ?_) | exact (rfl : allOne _ = true) | (refine (?_ : (0 : Int) ≤ _); omega) | (refine (?_ : _ ≠ _); omega) | (refine (?_ : srcLen _ = rowsLen _); rfl) | exact Nat.le_of_ble_eq_true rfl | exact (by kernel_rfl : drawOk _ _ = true) | refine eqv_len_map ?_ | refine eqv_size ?_ | refine eqv_put (eqv_ck ?_) | refine eqv_zero ?_ | refine eqv_wrap (by omega) (by omega) ?_ | refine eqv_u64 (by omega) (by omega) ?_ | refine eqv_u8 (by omega) (by omega) ?_ | refine eqv_to _ (set_map rfl rfl) ?_ | refine ⟨_, _, (by first | rfl | assumption), at_map (by assumption), ?_⟩ | refine ⟨_, _, (by first | rfl | assumption), (by assumption), ?_⟩ | refine ⟨_, at_map (by assumption), (by decide), ?_⟩ | refine ⟨_, at_map (by assumption), ?_⟩ | (refine (?_ : _ ≤ 140737488355328); simp [rowsLen] <;> omega) | (refine (?_ : _ ≤ 9223372036854775807); simp [rowsLen] <;> omega) | (refine (?_ : _ = rowsLen _); simp [rowsLen] <;> omega) | refine eqv_to _ (app_row rfl) (eqv_to _ app_len ?_) | refine eqv_to _ (app_first rfl) (eqv_to 1 rfl ?_) | refine idx_sl (at_map (by assumption)) (by omega) ?_ | refine idx_ms _ (by first | rfl | assumption) (by first | assumption | omega) ?_ | fail)
    all_goals first
      | exact congrArg vbool (pB_t fun j hj => hall j (by omega)).symm
theorem c_many (l : List Opt) : PCall Tryz.prog 94 [.pv (.sl 6 (l.map Opt.row))] (fun r => r = vbool (decide (24 < l.length))) := by
  refine acall_of tok mixed 6 rfl (fn := Tryz.f94) (c := Tryz.f94.body.getD .skip) (by kernel_rfl) (by kernel_rfl) (by kernel_rfl) rfl 0 rfl ?_
  repeat' (first | refine o1 ?_ | refine o2 ?_ | refine k1 ?_ | refine k2 ?_ | refine k3 ?_ | refine k4 ?_ | refine k6 ?_ | refine k7 ?_ | refine k8 ?_ | refine And.intro ?_ ?_ | exact trivial | refine o3 ?_ | refine o4 ?_ | refine o5 ?_ | refine o6 ?_ | refine k5 ?_ | (intro h; first | exact Bool.noConfusion h | exact nz _ h | exact nl h | (simp at h; done) | (simp at h; first | (exfalso; omega) | skip) | skip) | (change retOk _ _ _ _; refine ret_pure rfl trivial ?_) | exact (rfl : allOne _ = true) | (refine (?_ : (0 : Int) ≤ _); omega) | (refine (?_ : _ ≠ _); omega) | (refine (?_ : srcLen _ = rowsLen _); rfl) | exact Nat.le_of_ble_eq_true rfl | exact (by kernel_rfl : drawOk _ _ = true) | refine eqv_len_map ?_ | refine eqv_size ?_ | refine eqv_put (eqv_ck ?_) | refine eqv_zero ?_ | refine eqv_wrap (by omega) (by omega) ?_ | refine eqv_u64 (by omega) (by omega) ?_ | refine eqv_u8 (by omega) (by omega) ?_ | refine eqv_to _ (set_map rfl rfl) ?_ | refine ⟨_, _, (by first | rfl | assumption), at_map (by assumption), ?_⟩ | refine ⟨_, _, (by first | rfl | assumption), (by assumption), ?_⟩ | refine ⟨_, at_map (by assumption), (by decide), ?_⟩ | refine ⟨_, at_map (by assumption), ?_⟩ | (refine (?_ : _ ≤ 140737488355328); simp [rowsLen] <;> omega) | (refine (?_ : _ ≤ 9223372036854775807); simp [rowsLen] <;> omega) | (refine (?_ : _ = rowsLen _); simp [rowsLen] <;> omega) | refine eqv_to _ (app_row rfl) (eqv_to _ app_len ?_) | refine eqv_to _ (app_first rfl) (eqv_to 1 rfl ?_) | refine idx_sl (at_map (by assumption)) (by omega) ?_ | refine idx_ms _ (by first | rfl | assumption) (by first | assumption | omega) ?_ | fail)
  all_goals (refine congrArg vbool (decide_eq_decide.2 ?_); omega)
theorem c_large (m : Model) : PCall Tryz.prog 53 [ag m.cells] (fun r => r = vbool (pB (¬ sizedP m))) := by
  refine acall_of tok mixed 36 rfl (fn := Tryz.f53) (c := Tryz.f53.body.getD .skip) (by kernel_rfl) (by kernel_rfl) (by kernel_rfl) rfl 0 rfl ?_
  repeat' (first | refine o1 ?_ | refine o2 ?_ | refine k1 ?_ | refine k2 ?_ | refine k3 ?_ | refine k4 ?_ | refine k6 ?_ | refine k7 ?_ | refine k8 ?_ | refine And.intro ?_ ?_ | exact trivial | refine o3 ?_ | refine o4 ?_ | refine o5 ?_ | refine o6 ?_ | refine k5 ?_ | (intro h; first | exact Bool.noConfusion h | exact nz _ h | exact nl h | (simp at h; done) | (simp at h; first | (exfalso; omega) | skip) | skip) | (change retOk _ _ _ _; refine ret_pure rfl trivial ?_) | exact (rfl : allOne _ = true) | (refine (?_ : (0 : Int) ≤ _); omega) | (refine (?_ : _ ≠ _); omega) | (refine (?_ : srcLen _ = rowsLen _); rfl) | exact Nat.le_of_ble_eq_true rfl | exact (by kernel_rfl : drawOk _ _ = true) | refine eqv_len_map ?_ | refine eqv_size ?_ | refine eqv_put (eqv_ck ?_) | refine eqv_zero ?_ | refine eqv_wrap (by omega) (by omega) ?_ | refine eqv_u64 (by omega) (by omega) ?_ | refine eqv_u8 (by omega) (by omega) ?_ | refine eqv_to _ (set_map rfl rfl) ?_ | refine ⟨_, _, (by first | rfl | assumption), at_map (by assumption), ?_⟩ | refine ⟨_, _, (by first | rfl | assumption), (by assumption), ?_⟩ | refine ⟨_, at_map (by assumption), (by decide), ?_⟩ | refine ⟨_, at_map (by assumption), ?_⟩ | (refine (?_ : _ ≤ 140737488355328); simp [rowsLen] <;> omega) | (refine (?_ : _ ≤ 9223372036854775807); simp [rowsLen] <;> omega) | (refine (?_ : _ = rowsLen _); simp [rowsLen] <;> omega) | refine eqv_to _ (app_row rfl) (eqv_to _ app_len ?_) | refine eqv_to _ (app_first rfl) (eqv_to 1 rfl ?_) | refine idx_sl (at_map (by assumption)) (by omega) ?_ | refine idx_ms _ (by first | rfl | assumption) (by first | assumption | omega) ?_ | (change vcFun _ _ _ _ _; refine call_eq rfl (by repeat' (first | trivial | refine And.intro ?_ ?_ | (show 0 + _ ≤ List.length _; simp))) ALeL.refl (c_any_opts m.classes 94 [] (fun x => decide (24 < x.length)) (by omega) (fun x _ => c_many x)) rfl ?_) | fail)
  all_goals first
    | (refine congrArg vbool (pB_eq ?_); rw [sizedP_iff (by assumption), decide_eq_true_iff]; omega)
    | (refine congrArg vbool (pB_t fun h => ?_).symm; obtain ⟨h1, h2, h3, h4, h5, h6⟩ := h; omega)
    | (refine congrArg vbool (pB_t fun h => ?_).symm; obtain ⟨x, hx, h7⟩ := (by assumption : ∃ x, x ∈ m.classes ∧ 24 < List.length x); have := h.2.1 x hx; omega)
end Go.Proofs.YtpnghlibmpainaaGreat.Cw

/-
  Contracts: pairs of models.
-/
namespace Go.Proofs.YtpnghlibmpainaaGreat.Cw
open Go.Cw Go.Proofs
set_option linter.unusedVariables false
set_option maxRecDepth 100000
set_option maxHeartbeats 800000

theorem c_order (p q : Pair) : PCall Tryz.prog 58 [ag p.row, ag q.row] (fun r => r = vint .i64 (orI [cmpI p.rule q.rule, cmpI p.first q.first, cmpI p.second q.second])) := by
  refine acall_of tok mixed 22 rfl (fn := Tryz.f58) (c := Tryz.f58.body.getD .skip) (by kernel_rfl) (by kernel_rfl) (by kernel_rfl) rfl 0 rfl ?_
  repeat' (first | refine o1 ?_ | refine o2 ?_ | refine k1 ?_ | refine k2 ?_ | refine k3 ?_ | refine k4 ?_ | refine k6 ?_ | refine k7 ?_ | refine k8 ?_ | refine And.intro ?_ ?_ | exact trivial | refine o3 ?_ | refine o4 ?_ | refine o5 ?_ | refine o6 ?_ | refine k5 ?_ | (intro h; first | exact Bool.noConfusion h | exact nz _ h | exact nl h | (simp at h; done) | (simp at h; first | (exfalso; omega) | skip) | skip) | (change retOk _ _ _ _; refine ret_pure rfl trivial ?_) | exact (rfl : allOne _ = true) | (refine (?_ : (0 : Int) ≤ _); omega) | (refine (?_ : _ ≠ _); omega) | (refine (?_ : srcLen _ = rowsLen _); rfl) | exact Nat.le_of_ble_eq_true rfl | exact (by kernel_rfl : drawOk _ _ = true) | refine eqv_len_map ?_ | refine eqv_size ?_ | refine eqv_put (eqv_ck ?_) | refine eqv_zero ?_ | refine eqv_wrap (by omega) (by omega) ?_ | refine eqv_u64 (by omega) (by omega) ?_ | refine eqv_u8 (by omega) (by omega) ?_ | refine eqv_to _ (set_map rfl rfl) ?_ | refine ⟨_, _, (by first | rfl | assumption), at_map (by assumption), ?_⟩ | refine ⟨_, _, (by first | rfl | assumption), (by assumption), ?_⟩ | refine ⟨_, at_map (by assumption), (by decide), ?_⟩ | refine ⟨_, at_map (by assumption), ?_⟩ | (refine (?_ : _ ≤ 140737488355328); simp [rowsLen] <;> omega) | (refine (?_ : _ ≤ 9223372036854775807); simp [rowsLen] <;> omega) | (refine (?_ : _ = rowsLen _); simp [rowsLen] <;> omega) | refine eqv_to _ (app_row rfl) (eqv_to _ app_len ?_) | refine eqv_to _ (app_first rfl) (eqv_to 1 rfl ?_) | refine idx_sl (at_map (by assumption)) (by omega) ?_ | refine idx_ms _ (by first | rfl | assumption) (by first | assumption | omega) ?_ | (change vcFunD _ _ _ _ _; refine callD_eq rfl (by repeat' (first | trivial | refine And.intro ?_ ?_ | (show 0 + _ ≤ List.length _; simp))) ALeL.refl (c_cmp _ _) rfl ?_) | (change vcFunD _ _ _ _ _; refine callD_eq rfl (by repeat' (first | trivial | refine And.intro ?_ ?_ | (show 0 + _ ≤ List.length _; simp))) ALeL.refl (c_or [cmpI p.rule q.rule, cmpI p.first q.first, cmpI p.second q.second] (Nat.le_of_ble_eq_true rfl)) rfl ?_) | fail)
  all_goals exact rfl
theorem pair_cmp {p q : Pair} : orI [cmpI p.rule q.rule, cmpI p.first q.first, cmpI p.second q.second] < 0 ↔ pairLt p q := by
  simp only [orI, cmpI, pairLt]
  grind
theorem c_paired1 (n : Int) : PCall Tryz.prog 100 [vint .i64 n] (fun r => r = vbool (pB (n ≠ 0 ∧ ¬ priceP n))) := by
  refine acall_of tok mixed 10 rfl (fn := Tryz.f100) (c := Tryz.f100.body.getD .skip) (by kernel_rfl) (by kernel_rfl) (by kernel_rfl) rfl 0 rfl ?_
  repeat' (first | refine o1 ?_ | refine o2 ?_ | refine k1 ?_ | refine k2 ?_ | refine k3 ?_ | refine k4 ?_ | refine k6 ?_ | refine k7 ?_ | refine k8 ?_ | refine And.intro ?_ ?_ | exact trivial | refine o3 ?_ | refine o4 ?_ | refine o5 ?_ | refine o6 ?_ | refine k5 ?_ | (intro h; first | exact Bool.noConfusion h | exact nz _ h | exact nl h | (simp at h; done) | (simp at h; first | (exfalso; omega) | skip) | skip) | (change retOk _ _ _ _; refine ret_pure rfl trivial ?_) | exact (rfl : allOne _ = true) | (refine (?_ : (0 : Int) ≤ _); omega) | (refine (?_ : _ ≠ _); omega) | (refine (?_ : srcLen _ = rowsLen _); rfl) | exact Nat.le_of_ble_eq_true rfl | exact (by kernel_rfl : drawOk _ _ = true) | refine eqv_len_map ?_ | refine eqv_size ?_ | refine eqv_put (eqv_ck ?_) | refine eqv_zero ?_ | refine eqv_wrap (by omega) (by omega) ?_ | refine eqv_u64 (by omega) (by omega) ?_ | refine eqv_u8 (by omega) (by omega) ?_ | refine eqv_to _ (set_map rfl rfl) ?_ | refine ⟨_, _, (by first | rfl | assumption), at_map (by assumption), ?_⟩ | refine ⟨_, _, (by first | rfl | assumption), (by assumption), ?_⟩ | refine ⟨_, at_map (by assumption), (by decide), ?_⟩ | refine ⟨_, at_map (by assumption), ?_⟩ | (refine (?_ : _ ≤ 140737488355328); simp [rowsLen] <;> omega) | (refine (?_ : _ ≤ 9223372036854775807); simp [rowsLen] <;> omega) | (refine (?_ : _ = rowsLen _); simp [rowsLen] <;> omega) | refine eqv_to _ (app_row rfl) (eqv_to _ app_len ?_) | refine eqv_to _ (app_first rfl) (eqv_to 1 rfl ?_) | refine idx_sl (at_map (by assumption)) (by omega) ?_ | refine idx_ms _ (by first | rfl | assumption) (by first | assumption | omega) ?_ | (change vcFunD _ _ _ _ _; refine callD_eq rfl (by repeat' (first | trivial | refine And.intro ?_ ?_ | (show 0 + _ ≤ List.length _; simp))) ALeL.refl (c_cost n) rfl ?_) | (change vcFun _ _ _ _ _; refine call_eq rfl (by repeat' (first | trivial | refine And.intro ?_ ?_ | (show 0 + _ ≤ List.length _; simp))) ALeL.refl (c_cost n) rfl ?_) | fail)
  all_goals first
    | exact congrArg vbool (pB_f fun h => h.1 (by assumption)).symm
    | exact congrArg vbool (pB_eq (by simp_all))
theorem price_any {t : List Int} : (!t.any fun n => pB (n ≠ 0 ∧ ¬ priceP n)) = true ↔ ∀ x ∈ t, x = 0 ∨ priceP x := by
  simp only [Bool.not_eq_true', List.any_eq_false, decide_eq_true_eq]
  constructor
  · intro h x hx
    have := h x hx
    by_cases h0 : x = 0
    · exact .inl h0
    · exact .inr (Classical.byContradiction fun h1 => this ⟨h0, h1⟩)
  · intro h x hx ⟨h0, h1⟩
    rcases h x hx with h2 | h2
    · exact h0 h2
    · exact h1 h2
theorem pair_iff {m : Model} {n k : Nat} {r : Int} {t : List Int} {a b : List Opt} (ha : m.classes[n]? = some a) (hb : m.classes[k]? = some b) (hnk : (n : Int) < k) : pairP m ⟨n, k, r, t⟩ ↔ ruleP m r ∧ t.length = a.length * b.length ∧ ∀ x ∈ t, x = 0 ∨ priceP x := by
  unfold pairP
  simp only [Int.toNat_natCast, ha, hb]
  constructor
  · rintro ⟨h1, h2, h3, ⟨a', b', h4, h5, h6⟩, h7⟩
    cases h4; cases h5; exact ⟨h1, h6, h7⟩
  · rintro ⟨h1, h2, h3⟩
    exact ⟨h1, by omega, hnk, ⟨a, b, rfl, rfl, h2⟩, h3⟩
theorem pair_f {m : Model} {p : Pair} (h : ¬ (0 ≤ p.first ∧ p.first < p.second ∧ p.second < m.classes.length)) : ¬ pairP m p := fun ⟨h1, h2, h3, ⟨a, b, h4, h5, h6⟩, h7⟩ => by
  have := (List.getElem?_eq_some_iff.1 h5).1
  omega
theorem c_paired (m : Model) (p : Pair) (hz : sizedP m) : PCall Tryz.prog 57 [ag m.cells, ag p.row] (fun r => r = vbool (pB (pairP m p))) := by
  by_cases h : 0 ≤ p.first ∧ p.first < p.second ∧ p.second < m.classes.length
  · obtain ⟨h1, h2, h3⟩ := h
    obtain ⟨f, s, r, t⟩ := p
    dsimp only at h1 h2 h3 ⊢
    obtain ⟨n, rfl⟩ := Int.eq_ofNat_of_zero_le h1
    obtain ⟨k, rfl⟩ := Int.eq_ofNat_of_zero_le (show 0 ≤ s by omega)
    obtain ⟨a, ha⟩ := getE (show n < m.classes.length by omega)
    obtain ⟨b, hb⟩ := getE (show k < m.classes.length by omega)
    have hla := hz.2.1 a (List.mem_of_getElem? ha)
    have hlb := hz.2.1 b (List.mem_of_getElem? hb)
    have hab : a.length * b.length ≤ 576 := Nat.mul_le_mul hla hlb
    have hab1 : (a.length : Int) * b.length ≤ 576 := by exact_mod_cast hab
    have hab0 : (0 : Int) ≤ (a.length : Int) * b.length := by exact_mod_cast Nat.zero_le _
    have hcast : ((a.length * b.length : Nat) : Int) = (a.length : Int) * b.length := by simp
    refine acall_of tok mixed 55 rfl (fn := Tryz.f57) (c := Tryz.f57.body.getD .skip) (by kernel_rfl) (by kernel_rfl) (by kernel_rfl) rfl 0 rfl ?_
    rw [pB_iff (pair_iff ha hb h2)]
    repeat' (first | (refine idx_sl (k := n) (at_map ha) (by omega) ?_) | (refine idx_sl (k := k) (at_map hb) (by omega) ?_) | refine o1 ?_ | refine o2 ?_ | refine k1 ?_ | refine k2 ?_ | refine k3 ?_ | refine k4 ?_ | refine k6 ?_ | refine k7 ?_ | refine k8 ?_ | refine And.intro ?_ ?_ | exact trivial | refine o3 ?_ | refine o4 ?_ | refine o5 ?_ | refine o6 ?_ | refine k5 ?_ | (intro h; first | exact Bool.noConfusion h | exact nz _ h | exact nl h | (simp at h; done) | (simp at h; first | (exfalso; omega) | skip) | skip) | (change retOk _ _ _ _; refine ret_pure rfl trivial ?_) | exact (rfl : allOne _ = true) | (refine (?_ : (0 : Int) ≤ _); omega) | (refine (?_ : _ ≠ _); omega) | (refine (?_ : srcLen _ = rowsLen _); rfl) | exact Nat.le_of_ble_eq_true rfl | exact (by kernel_rfl : drawOk _ _ = true) | refine eqv_len_map ?_ | refine eqv_size ?_ | refine eqv_put (eqv_ck ?_) | refine eqv_zero ?_ | refine eqv_wrap (by omega) (by omega) ?_ | refine eqv_u64 (by omega) (by omega) ?_ | refine eqv_u8 (by omega) (by omega) ?_ | refine eqv_to _ (set_map rfl rfl) ?_ | refine ⟨_, _, (by first | rfl | assumption), at_map (by assumption), ?_⟩ | refine ⟨_, _, (by first | rfl | assumption), (by assumption), ?_⟩ | refine ⟨_, at_map (by assumption), (by decide), ?_⟩ | refine ⟨_, at_map (by assumption), ?_⟩ | (refine (?_ : _ ≤ 140737488355328); simp [rowsLen] <;> omega) | (refine (?_ : _ ≤ 9223372036854775807); simp [rowsLen] <;> omega) | (refine (?_ : _ = rowsLen _); simp [rowsLen] <;> omega) | refine eqv_to _ (app_row rfl) (eqv_to _ app_len ?_) | refine eqv_to _ (app_first rfl) (eqv_to 1 rfl ?_) | refine idx_sl (at_map (by assumption)) (by omega) ?_ | refine idx_ms _ (by first | rfl | assumption) (by first | assumption | omega) ?_ | (change vcFunD _ _ _ _ _; refine callD_eq rfl (by repeat' (first | trivial | refine And.intro ?_ ?_ | (show 0 + _ ≤ List.length _; simp))) ALeL.refl (c_named m r) rfl ?_) | (change vcFun _ _ _ _ _; refine call_eq rfl (by repeat' (first | trivial | refine And.intro ?_ ?_ | (show 0 + _ ≤ List.length _; simp))) ALeL.refl (c_any_int t 100 [] (fun n => pB (n ≠ 0 ∧ ¬ priceP n)) (by omega) (fun n _ => c_paired1 n)) rfl ?_) | fail)
    all_goals first
      | (refine congrArg vbool (pB_f fun h => ?_).symm; obtain ⟨g1, g2, g3⟩ := h; first | exact absurd g1 (by assumption) | omega)
      | (refine congrArg vbool (pB_eq ?_); rw [price_any]; exact ⟨fun g => ⟨by assumption, by omega, g⟩, fun g => g.2.2⟩)
      | (exfalso; omega)
  · refine acall_of tok mixed 55 rfl (fn := Tryz.f57) (c := Tryz.f57.body.getD .skip) (by kernel_rfl) (by kernel_rfl) (by kernel_rfl) rfl 0 rfl ?_
    rw [pB_f (pair_f h)]
    repeat' (first | refine o1 ?_ | refine o2 ?_ | refine k1 ?_ | refine k2 ?_ | refine k3 ?_ | refine k4 ?_ | refine k6 ?_ | refine k7 ?_ | refine k8 ?_ | refine And.intro ?_ ?_ | exact trivial | refine o3 ?_ | refine o4 ?_ | refine o5 ?_ | refine o6 ?_ | refine k5 ?_ | (intro h; first | exact Bool.noConfusion h | exact nz _ h | exact nl h | (simp at h; done) | (simp at h; first | (exfalso; omega) | skip) | skip) | (change retOk _ _ _ _; refine ret_pure rfl trivial ?_) | exact (rfl : allOne _ = true) | (refine (?_ : (0 : Int) ≤ _); omega) | (refine (?_ : _ ≠ _); omega) | (refine (?_ : srcLen _ = rowsLen _); rfl) | exact Nat.le_of_ble_eq_true rfl | exact (by kernel_rfl : drawOk _ _ = true) | refine eqv_len_map ?_ | refine eqv_size ?_ | refine eqv_put (eqv_ck ?_) | refine eqv_zero ?_ | refine eqv_wrap (by omega) (by omega) ?_ | refine eqv_u64 (by omega) (by omega) ?_ | refine eqv_u8 (by omega) (by omega) ?_ | refine eqv_to _ (set_map rfl rfl) ?_ | refine ⟨_, _, (by first | rfl | assumption), at_map (by assumption), ?_⟩ | refine ⟨_, _, (by first | rfl | assumption), (by assumption), ?_⟩ | refine ⟨_, at_map (by assumption), (by decide), ?_⟩ | refine ⟨_, at_map (by assumption), ?_⟩ | (refine (?_ : _ ≤ 140737488355328); simp [rowsLen] <;> omega) | (refine (?_ : _ ≤ 9223372036854775807); simp [rowsLen] <;> omega) | (refine (?_ : _ = rowsLen _); simp [rowsLen] <;> omega) | refine eqv_to _ (app_row rfl) (eqv_to _ app_len ?_) | refine eqv_to _ (app_first rfl) (eqv_to 1 rfl ?_) | refine idx_sl (at_map (by assumption)) (by omega) ?_ | refine idx_ms _ (by first | rfl | assumption) (by first | assumption | omega) ?_ | (change vcFunD _ _ _ _ _; refine callD_eq rfl (by repeat' (first | trivial | refine And.intro ?_ ?_ | (show 0 + _ ≤ List.length _; simp))) ALeL.refl (c_named m p.rule) rfl ?_) | fail)
    all_goals first
      | exact rfl
      | (exfalso; omega)
theorem pairAt_zero {m : Model} {p : Pair} (hp : m.pairs[0]? = some p) : pairAt m 0 ↔ pairP m p :=
  ⟨fun h => (h p hp).1, fun h p' hp' => by rw [hp] at hp'; cases hp'; exact ⟨h, fun k q e => by omega⟩⟩
theorem pairAt_next {m : Model} {k : Nat} {p q : Pair} (hp : m.pairs[k + 1]? = some p) (hq : m.pairs[k]? = some q) : pairAt m (k + 1) ↔ pairP m p ∧ pairLt q p :=
  ⟨fun h => ⟨(h p hp).1, (h p hp).2 k q rfl hq⟩, fun h p' hp' => by
    rw [hp] at hp'; cases hp'
    refine ⟨h.1, fun k' q' e hq' => ?_⟩
    obtain rfl : k = k' := by omega
    rw [hq] at hq'; cases hq'; exact h.2⟩
end Go.Proofs.YtpnghlibmpainaaGreat.Cw

/-
  Contracts: counts of models.
-/
namespace Go.Proofs.YtpnghlibmpainaaGreat.Cw
open Go.Cw Go.Proofs
set_option linter.unusedVariables false
set_option maxRecDepth 100000
set_option maxHeartbeats 800000

def loadLt (y x : Load) : Prop := y.cls < x.cls ∨ (y.cls = x.cls ∧ y.opt < x.opt)
theorem load_zero {m : Model} {l : List Load} {x : Load} (hx : l[0]? = some x) : loadAt m l 0 ↔ optionP m x.cls x.opt ∧ 1 ≤ x.weight ∧ x.weight ≤ 1000 :=
  ⟨fun h => ⟨(h x hx).1, (h x hx).2.1, (h x hx).2.2.1⟩, fun h x' h' => by rw [hx] at h'; cases h'; exact ⟨h.1, h.2.1, h.2.2, fun k y e => by omega⟩⟩
theorem load_next {m : Model} {l : List Load} {k : Nat} {x y : Load} (hx : l[k + 1]? = some x) (hy : l[k]? = some y) : loadAt m l (k + 1) ↔ optionP m x.cls x.opt ∧ 1 ≤ x.weight ∧ x.weight ≤ 1000 ∧ loadLt y x :=
  ⟨fun h => ⟨(h x hx).1, (h x hx).2.1, (h x hx).2.2.1, (h x hx).2.2.2 k y rfl hy⟩, fun h x' h' => by
    rw [hx] at h'; cases h'
    refine ⟨h.1, h.2.1, h.2.2.1, fun k' y' e hy' => ?_⟩
    obtain rfl : k = k' := by omega
    rw [hy] at hy'; cases hy'; exact h.2.2.2⟩
theorem load_cmp {y x : Load} : orI [cmpI y.cls x.cls, cmpI y.opt x.opt] < 0 ↔ loadLt y x := by
  simp only [orI, cmpI, loadLt]
  grind
theorem load_cmp2 {y x : Load} : 0 ≤ orI [cmpI y.cls x.cls, cmpI y.opt x.opt] ↔ ¬ loadLt y x := by
  rw [← load_cmp]; omega
theorem c_counted (m : Model) (c : Count) (hc : c.loads.length ≤ 9223372036854775807) : PCall Tryz.prog 61 [ag m.cells, ag c.row] (fun r => r = vbool (pB (countP_ m c))) := by
  refine acall_of tok mixed 81 rfl (fn := Tryz.f61) (c := Tryz.f61.body.getD .skip) (by kernel_rfl) (by kernel_rfl) (by kernel_rfl) rfl 0 rfl ?_
  repeat' (first | refine o1 ?_ | refine o2 ?_ | refine k1 ?_ | refine k2 ?_ | refine k3 ?_ | refine k4 ?_ | refine k6 ?_ | refine k7 ?_ | refine k8 ?_ | refine And.intro ?_ ?_ | exact trivial | refine o3 ?_ | refine o4 ?_ | refine o5 ?_ | refine o6 ?_ | refine k5 ?_ | (intro h; first | exact Bool.noConfusion h | exact nz _ h | exact nl h | (simp at h; done) | (simp at h; first | (exfalso; omega) | skip) | skip) | (change retOk _ _ _ _; refine ret_pure rfl trivial ?_) | exact (rfl : allOne _ = true) | (refine (?_ : (0 : Int) ≤ _); omega) | (refine (?_ : _ ≠ _); omega) | (refine (?_ : srcLen _ = rowsLen _); rfl) | exact Nat.le_of_ble_eq_true rfl | exact (by kernel_rfl : drawOk _ _ = true) | refine eqv_len_map ?_ | refine eqv_size ?_ | refine eqv_put (eqv_ck ?_) | refine eqv_zero ?_ | refine eqv_wrap (by omega) (by omega) ?_ | refine eqv_u64 (by omega) (by omega) ?_ | refine eqv_u8 (by omega) (by omega) ?_ | refine eqv_to _ (set_map rfl rfl) ?_ | refine ⟨_, _, (by first | rfl | assumption), at_map (by assumption), ?_⟩ | refine ⟨_, _, (by first | rfl | assumption), (by assumption), ?_⟩ | refine ⟨_, at_map (by assumption), (by decide), ?_⟩ | refine ⟨_, at_map (by assumption), ?_⟩ | (refine (?_ : _ ≤ 140737488355328); simp [rowsLen] <;> omega) | (refine (?_ : _ ≤ 9223372036854775807); simp [rowsLen] <;> omega) | (refine (?_ : _ = rowsLen _); simp [rowsLen] <;> omega) | refine eqv_to _ (app_row rfl) (eqv_to _ app_len ?_) | refine eqv_to _ (app_first rfl) (eqv_to 1 rfl ?_) | refine idx_sl (at_map (by assumption)) (by omega) ?_ | refine idx_ms _ (by first | rfl | assumption) (by first | assumption | omega) ?_ | (change vcFun _ _ _ _ _; refine call_eq rfl (by repeat' (first | trivial | refine And.intro ?_ ?_ | (show 0 + _ ≤ List.length _; simp))) ALeL.refl (c_named m c.rule) rfl ?_) | (change vcFun _ _ _ _ _; refine call_eq rfl (by repeat' (first | trivial | refine And.intro ?_ ?_ | (show 0 + _ ≤ List.length _; simp))) ALeL.refl (c_cost c.penalty) rfl ?_) | (change vcFunD _ _ _ _ _; refine callD_eq rfl (by repeat' (first | trivial | refine And.intro ?_ ?_ | (show 0 + _ ≤ List.length _; simp))) ALeL.refl (c_named m c.rule) rfl ?_) | (change vcFunD _ _ _ _ _; refine callD_eq rfl (by repeat' (first | trivial | refine And.intro ?_ ?_ | (show 0 + _ ≤ List.length _; simp))) ALeL.refl (c_cost c.penalty) rfl ?_) | fail)
  all_goals first
    | (refine congrArg vbool (pB_f fun h => ?_).symm; obtain ⟨g1, g2, g3, g4, g5⟩ := h; first | exact absurd g1 (by assumption) | exact absurd g4 (by assumption) | omega)
    | skip
  refine loop_at (fun i : Nat => [(31, vint .i64 i)]) (fun _ => []) (fun i => i ≤ c.loads.length ∧ ∀ j, j < i → loadAt m c.loads j) (fun i => c.loads.length - i) 0 ⟨by omega, fun j hj => by omega⟩ (by repeat' (first | exact trivial | exact rfl | exact ⟨_, rfl, ALe.refl⟩ | refine And.intro ?_ ?_)) (by repeat' (first | exact trivial | exact rfl | exact ⟨_, rfl, ALe.refl⟩ | refine And.intro ?_ ?_)) ?_
  intro i ⟨hi, hall⟩
  rcases Nat.lt_or_ge i c.loads.length with hlt | hge
  · obtain ⟨x, hx⟩ := getE hlt
    rcases i with _ | k
    · have hz := load_zero (m := m) hx
      repeat' (first | (refine idx_sl (k := 0) (at_map hx) (by omega) ?_) | refine o1 ?_ | refine o2 ?_ | refine k1 ?_ | refine k2 ?_ | refine k3 ?_ | refine k4 ?_ | refine k6 ?_ | refine k7 ?_ | refine k8 ?_ | refine And.intro ?_ ?_ | exact trivial | refine o3 ?_ | refine o4 ?_ | refine o5 ?_ | refine o6 ?_ | refine k5 ?_ | (intro h; first | exact Bool.noConfusion h | exact nz _ h | exact nl h | (simp at h; done) | (simp at h; first | (exfalso; omega) | skip) | skip) | (change retOk _ _ _ _; refine ret_pure rfl trivial ?_) | exact (rfl : allOne _ = true) | (refine (?_ : (0 : Int) ≤ _); omega) | (refine (?_ : _ ≠ _); omega) | (refine (?_ : srcLen _ = rowsLen _); rfl) | exact Nat.le_of_ble_eq_true rfl | exact (by kernel_rfl : drawOk _ _ = true) | refine eqv_len_map ?_ | refine eqv_size ?_ | refine eqv_put (eqv_ck ?_) | refine eqv_zero ?_ | refine eqv_wrap (by omega) (by omega) ?_ | refine eqv_u64 (by omega) (by omega) ?_ | refine eqv_u8 (by omega) (by omega) ?_ | refine eqv_to _ (set_map rfl rfl) ?_ | refine ⟨_, _, (by first | rfl | assumption), at_map (by assumption), ?_⟩ | refine ⟨_, _, (by first | rfl | assumption), (by assumption), ?_⟩ | refine ⟨_, at_map (by assumption), (by decide), ?_⟩ | refine ⟨_, at_map (by assumption), ?_⟩ | (refine (?_ : _ ≤ 140737488355328); simp [rowsLen] <;> omega) | (refine (?_ : _ ≤ 9223372036854775807); simp [rowsLen] <;> omega) | (refine (?_ : _ = rowsLen _); simp [rowsLen] <;> omega) | refine eqv_to _ (app_row rfl) (eqv_to _ app_len ?_) | refine eqv_to _ (app_first rfl) (eqv_to 1 rfl ?_) | refine idx_sl (at_map (by assumption)) (by omega) ?_ | refine idx_ms _ (by first | rfl | assumption) (by first | assumption | omega) ?_ | (change vcFun _ _ _ _ _; refine call_eq rfl (by repeat' (first | trivial | refine And.intro ?_ ?_ | (show 0 + _ ≤ List.length _; simp))) ALeL.refl (c_option m x.cls x.opt) rfl ?_) | (change vcFunD _ _ _ _ _; refine callD_eq rfl (by repeat' (first | trivial | refine And.intro ?_ ?_ | (show 0 + _ ≤ List.length _; simp))) ALeL.refl (c_option m x.cls x.opt) rfl ?_) | fail)
      all_goals first
        | (refine congrArg vbool (pB_f fun h => ?_).symm; obtain ⟨g1, g2, g3⟩ := hz.1 (h.2.2.2.2 _ hlt); first | exact absurd g1 (by assumption) | omega)
        | exact ⟨1, ⟨by omega, all_lt_succ hall (hz.2 ⟨by assumption, by omega, by omega⟩)⟩, by omega, back [0, 1] rfl rfl ⟨rfl, rfl, trivial⟩ (by repeat' (first | exact trivial | exact rfl | exact ⟨_, rfl, ALe.refl⟩ | refine And.intro ?_ ?_))⟩
        | (exfalso; simp_all; done)
        | (exfalso; omega)
    · obtain ⟨y, hy⟩ := getE (show k < c.loads.length by omega)
      have hz := load_next (m := m) hx hy
      repeat' (first | (refine idx_sl (k := k + 1) (at_map hx) (by omega) ?_) | (refine idx_sl (k := k) (at_map hy) (by omega) ?_) | refine o1 ?_ | refine o2 ?_ | refine k1 ?_ | refine k2 ?_ | refine k3 ?_ | refine k4 ?_ | refine k6 ?_ | refine k7 ?_ | refine k8 ?_ | refine And.intro ?_ ?_ | exact trivial | refine o3 ?_ | refine o4 ?_ | refine o5 ?_ | refine o6 ?_ | refine k5 ?_ | (intro h; first | exact Bool.noConfusion h | exact nz _ h | exact nl h | (simp at h; done) | (simp at h; first | (exfalso; omega) | skip) | skip) | (change retOk _ _ _ _; refine ret_pure rfl trivial ?_) | exact (rfl : allOne _ = true) | (refine (?_ : (0 : Int) ≤ _); omega) | (refine (?_ : _ ≠ _); omega) | (refine (?_ : srcLen _ = rowsLen _); rfl) | exact Nat.le_of_ble_eq_true rfl | exact (by kernel_rfl : drawOk _ _ = true) | refine eqv_len_map ?_ | refine eqv_size ?_ | refine eqv_put (eqv_ck ?_) | refine eqv_zero ?_ | refine eqv_wrap (by omega) (by omega) ?_ | refine eqv_u64 (by omega) (by omega) ?_ | refine eqv_u8 (by omega) (by omega) ?_ | refine eqv_to _ (set_map rfl rfl) ?_ | refine ⟨_, _, (by first | rfl | assumption), at_map (by assumption), ?_⟩ | refine ⟨_, _, (by first | rfl | assumption), (by assumption), ?_⟩ | refine ⟨_, at_map (by assumption), (by decide), ?_⟩ | refine ⟨_, at_map (by assumption), ?_⟩ | (refine (?_ : _ ≤ 140737488355328); simp [rowsLen] <;> omega) | (refine (?_ : _ ≤ 9223372036854775807); simp [rowsLen] <;> omega) | (refine (?_ : _ = rowsLen _); simp [rowsLen] <;> omega) | refine eqv_to _ (app_row rfl) (eqv_to _ app_len ?_) | refine eqv_to _ (app_first rfl) (eqv_to 1 rfl ?_) | refine idx_sl (at_map (by assumption)) (by omega) ?_ | refine idx_ms _ (by first | rfl | assumption) (by first | assumption | omega) ?_ | (change vcFun _ _ _ _ _; refine call_eq rfl (by repeat' (first | trivial | refine And.intro ?_ ?_ | (show 0 + _ ≤ List.length _; simp))) ALeL.refl (c_option m x.cls x.opt) rfl ?_) | (change vcFunD _ _ _ _ _; refine callD_eq rfl (by repeat' (first | trivial | refine And.intro ?_ ?_ | (show 0 + _ ≤ List.length _; simp))) ALeL.refl (c_option m x.cls x.opt) rfl ?_) | (change vcFunD _ _ _ _ _; refine callD_eq rfl (by repeat' (first | trivial | refine And.intro ?_ ?_ | (show 0 + _ ≤ List.length _; simp))) ALeL.refl (c_cmp _ _) rfl ?_) | (change vcFunD _ _ _ _ _; refine callD_eq rfl (by repeat' (first | trivial | refine And.intro ?_ ?_ | (show 0 + _ ≤ List.length _; simp))) ALeL.refl (c_or [cmpI y.cls x.cls, cmpI y.opt x.opt] (Nat.le_of_ble_eq_true rfl)) rfl ?_) | fail)
      all_goals first
        | (refine congrArg vbool (pB_f fun h => ?_).symm; obtain ⟨g1, g2, g3, g4⟩ := hz.1 (h.2.2.2.2 _ hlt); first | exact absurd g1 (by assumption) | omega | exact absurd g4 (load_cmp2.1 (by assumption)) | (unfold loadLt at g4; omega))
        | exact ⟨k + 2, ⟨by omega, all_lt_succ hall (hz.2 ⟨by assumption, by omega, by omega, by first | exact load_cmp.1 (by omega) | (unfold loadLt; omega)⟩)⟩, by omega, back [0, 1] rfl rfl ⟨rfl, rfl, trivial⟩ (by repeat' (first | exact trivial | exact rfl | exact ⟨_, rfl, ALe.refl⟩ | refine And.intro ?_ ?_))⟩
        | (exfalso; omega)
  · repeat' (first | refine o1 ?_ | refine o2 ?_ | refine k1 ?_ | refine k2 ?_ | refine k3 ?_ | refine k4 ?_ | refine k6 ?_ | refine k7 ?_ | refine k8 ?_ | refine And.intro ?_ ?_ | exact trivial | refine o3 ?_ | refine o4 ?_ | refine o5 ?_ | refine o6 ?_ | refine k5 ?_ | (intro h; first | exact Bool.noConfusion h | exact nz _ h | exact nl h | (simp at h; done) | (simp at h; first | (exfalso; omega) | skip) | skip) | (change retOk _ _ _ _; refine ret_pure rfl trivial ?_) | exact (rfl : allOne _ = true) | (refine (?_ : (0 : Int) ≤ _); omega) | (refine (?_ : _ ≠ _); omega) | (refine (?_ : srcLen _ = rowsLen _); rfl) | exact Nat.le_of_ble_eq_true rfl | exact (by kernel_rfl : drawOk _ _ = true) | refine eqv_len_map ?_ | refine eqv_size ?_ | refine eqv_put (eqv_ck ?_) | refine eqv_zero ?_ | refine eqv_wrap (by omega) (by omega) ?_ | refine eqv_u64 (by omega) (by omega) ?_ | refine eqv_u8 (by omega) (by omega) ?_ | refine eqv_to _ (set_map rfl rfl) ?_ | refine ⟨_, _, (by first | rfl | assumption), at_map (by assumption), ?_⟩ | refine ⟨_, _, (by first | rfl | assumption), (by assumption), ?_⟩ | refine ⟨_, at_map (by assumption), (by decide), ?_⟩ | refine ⟨_, at_map (by assumption), ?_⟩ | (refine (?_ : _ ≤ 140737488355328); simp [rowsLen] <;> omega) | (refine (?_ : _ ≤ 9223372036854775807); simp [rowsLen] <;> omega) | (refine (?_ : _ = rowsLen _); simp [rowsLen] <;> omega) | refine eqv_to _ (app_row rfl) (eqv_to _ app_len ?_) | refine eqv_to _ (app_first rfl) (eqv_to 1 rfl ?_) | refine idx_sl (at_map (by assumption)) (by omega) ?_ | refine idx_ms _ (by first | rfl | assumption) (by first | assumption | omega) ?_ | fail)
    all_goals first
      | exact congrArg vbool (pB_t ⟨by assumption, by omega, by omega, by assumption, fun j hj => hall j (by omega)⟩).symm
end Go.Proofs.YtpnghlibmpainaaGreat.Cw
