/-
  Part 7 of the proof (X12, X4, M2, M3, M4, M5, M6, D1, D2, D4, D3): what later parts use. No conditions.
-/
import Derived.Test.YtpnghlibmpainaaGreatMS6

/-
  Contracts: the model of examinations, by the reference.
-/
namespace Go.Proofs.YtpnghlibmpainaaGreat.Cw
open Go Go.Cw Go.Proofs
set_option linter.unusedVariables false
set_option maxRecDepth 100000
set_option maxHeartbeats 20000000

theorem ren_m0 {d i z : Nat} {rn : List Nat} {r : List (List PV)} {p1 p2 p3 : PV} : renL d rn [slP i z r, .pv p1, .pv p2, .pv p3] = [slP (rn.getD i d) z r, .pv p1, .pv p2, .pv p3] := by simp [renL, renC, ren_sl]
theorem ren_m1 {d i z : Nat} {rn : List Nat} {r : List (List PV)} {p1 p2 p3 : PV} : renL d rn [.pv p1, slP i z r, .pv p2, .pv p3] = [.pv p1, slP (rn.getD i d) z r, .pv p2, .pv p3] := by simp [renL, renC, ren_sl]
theorem ren_m2 {d i z : Nat} {rn : List Nat} {r : List (List PV)} {p1 p2 p3 : PV} : renL d rn [.pv p1, .pv p2, slP i z r, .pv p3] = [.pv p1, .pv p2, slP (rn.getD i d) z r, .pv p3] := by simp [renL, renC, ren_sl]
theorem seats_pw {x : Exams} {e : Exam} : (seatsV x e).Pairwise fun p q => ¬ (p.sit = q.sit ∧ p.room = q.room) := by
  refine gr_pw _ (fun i _ => ?_) fun i j hij _ p hp q hq => ?_
  · unfold seatsI
    split
    · refine fm_pw (fun a b p q hab hp hq => ?_) _
      obtain ⟨_, -, hp⟩ := Option.bind_eq_some_iff.1 hp
      obtain ⟨_, -, hq⟩ := Option.bind_eq_some_iff.1 hq
      unfold seatF at hp hq
      split at hp <;> split at hq <;> first | (cases hp; done) | (cases hq; done) | (injection hp with hp; injection hq with hq; subst hp; subst hq; intro h; have := h.2; dsimp only at this; omega)
    · exact List.Pairwise.nil
  · have sit : ∀ {i : Nat} {p : Seat}, p ∈ seatsI x e i → p.sit = i := fun {i p} hp => by
      unfold seatsI at hp
      split at hp
      · obtain ⟨_, _, -, -, hf⟩ := upto_mem.1 hp
        unfold seatF at hf
        split at hf
        · injection hf with hf; subst hf; rfl
        · cases hf
      · cases hp
    have h1 := sit hp
    have h2 := sit hq
    intro h
    omega
theorem seats_uniq {x : Exams} {e : Exam} {j k : Nat} {p q : Seat} (h1 : (seatsV x e)[j]? = some p) (h2 : (seatsV x e)[k]? = some q) (hs : p.sit = q.sit) (hr : p.room = q.room) : j = k := by
  obtain ⟨hj, rfl⟩ := List.getElem?_eq_some_iff.1 h1
  obtain ⟨hk, rfl⟩ := List.getElem?_eq_some_iff.1 h2
  have h := List.pairwise_iff_getElem.1 (seats_pw (x := x) (e := e))
  rcases Nat.lt_trichotomy j k with g | g | g
  · exact absurd ⟨hs, hr⟩ (h j k hj hk g)
  · exact g
  · exact absurd ⟨hs.symm, hr.symm⟩ (h k j hk hj g)
/-- What a class's seats add to the loads of a sitting and a room, as_ far as_ they are looked at. -/
def partL (A : List Seat) (s r i : Nat) (w : Int) (k : Nat) : List Load := match A.findIdx? (seatIs s r) with
  | some j => if j < k then [⟨(i : Int), (j : Int), w⟩] else []
  | none => []
theorem partL_zero {A : List Seat} {s r i : Nat} {w : Int} : partL A s r i w 0 = [] := by
  unfold partL
  split
  · exact if_neg (by omega)
  · rfl
theorem partL_len {A : List Seat} {s r i k : Nat} {w : Int} : (partL A s r i w k).length ≤ 1 := by
  unfold partL
  split
  · split <;> simp
  · simp
theorem partL_yes {A : List Seat} {s r i k : Nat} {w : Int} {q : Seat} (hq : A[k]? = some q) (hu : ∀ (j k : Nat) p q, A[j]? = some p → A[k]? = some q → p.sit = q.sit → p.room = q.room → j = k) (h : q.sit = s ∧ q.room = r) : partL A s r i w (k + 1) = partL A s r i w k ++ [⟨(i : Int), (k : Int), w⟩] := by
  have hf : A.findIdx? (seatIs s r) = some k := idxQ_at (fun j hj y hy => seatIs_f fun e => by have := hu j k y q hy hq (by omega) (by omega); omega) hq (seatIs_t h)
  unfold partL
  rw [hf]
  dsimp only
  rw [if_pos (by omega), if_neg (by omega)]
  rfl
theorem partL_no {A : List Seat} {s r i k : Nat} {w : Int} {q : Seat} (hq : A[k]? = some q) (h : ¬ (q.sit = s ∧ q.room = r)) : partL A s r i w (k + 1) = partL A s r i w k := by
  unfold partL
  split
  · rename_i j hj
    have hne : j ≠ k := fun e => by
      subst e
      obtain ⟨hk, hp, -⟩ := List.findIdx?_eq_some_iff_getElem.1 hj
      obtain ⟨_, rfl⟩ := List.getElem?_eq_some_iff.1 hq
      rw [seatIs_f h] at hp
      cases hp
    by_cases h1 : j < k
    · rw [if_pos h1, if_pos (by omega)]
    · rw [if_neg h1, if_neg (by omega)]
  · rfl
theorem loads_all {S : List (List Seat)} {W : Nat → Int} {s r i : Nat} {A : List Seat} (hA : S[i]? = some A) : loadsS S W s r (i + 1) = loadsS S W s r i ++ partL A s r i (W i) A.length := by
  unfold loadsS partL
  cases hf : A.findIdx? (seatIs s r) with
  | none => rw [upto_none hA (show loadF W s r i A = none by unfold loadF; rw [hf]; rfl)]; simp
  | some j =>
    have hj := (List.findIdx?_eq_some_iff_getElem.1 hf).1
    rw [upto_some hA (show loadF W s r i A = some ⟨(i : Int), (j : Int), W i⟩ by unfold loadF; rw [hf]; rfl)]
    dsimp only
    rw [if_pos hj]
theorem c_rbuild0 (x : Exams) (h0 : examsE x = 0) (hl : LensX x) (h6 : x.exams.length ≤ 6) : PCall Tryz.prog 21 [ag x.cells] (fun a => Leq a (.tup [ag (buildM x).cells, vint .i64 (buildE x)])) := by
  have h1 := c_rexams x
  rw [h0] at h1
  refine acall_of tok mixed 254 rfl (fn := Tryz.f21) (c := Tryz.f21.body.getD .skip) (by kernel_rfl) (by kernel_rfl) (by kernel_rfl) rfl 0 rfl ?_
  repeat' (first | refine o1 ?_ | refine o2 ?_ | refine k1 ?_ | refine k2 ?_ | refine k3 ?_ | refine k4 ?_ | refine k6 ?_ | refine And.intro ?_ ?_ | (intro h; first | exact Bool.noConfusion h | exact nz _ h | exact nl h | (simp at h; done) | (simp at h; first | (exfalso; omega) | skip) | skip) | exact (by kernel_rfl : drawOk _ _ = true) | (change vcFun _ _ _ _ _; refine call_eq rfl (by repeat' (first | trivial | refine And.intro ?_ ?_ | (show 0 + _ ≤ List.length _; simp))) ALeL.refl (h1) rfl ?_) | fail)
  refine loop_for (fun i : Nat => [(1, .ptr 0 8 0 0), (2, .ptr 1 4 0 0), (3, vint .i64 0), (5, .ptr 2 4 0 0), (6, slP 4 1 (rowsA x i)), (7, vint .i64 i)]) (fun i => [some ⟨33, 8, false, .box (pvs x.cells)⟩, some ⟨51, 4, false, .box (pvs zeroM)⟩, some ⟨51, 4, false, .box [slP 3 1 (rowsC x i), nilA, nilA, vint .i64 7]⟩, obP 73 1 (rowsC x i), obP 109 1 (rowsA x i)]) (fun i => i ≤ x.exams.length ∧ ∀ j, j < i → sizeE x j = 0) (fun i => x.exams.length - i) 0 ⟨Nat.zero_le _, fun j hj => by omega⟩ ?_ ?_
  · exact back [0, 1, 2, 3, 4] rfl rfl (by repeat' (first | exact trivial | exact rfl | refine kept_bx ren_m0 rfl ?_ | refine And.intro ?_ ?_)) (by repeat' (first | exact trivial | exact rfl | refine And.intro ?_ ?_))
  intro i ⟨hi, hall⟩
  have la := rowsA_len (x := x) (i := i)
  have lc := rowsC_len (x := x) (i := i)
  rcases Nat.lt_or_ge i x.exams.length with hlt | hge
  · obtain ⟨e, he⟩ := getE hlt
    have hsp := c_spots x i e hl he
    have hsz := sizeE_at he
    have hbad := bad_build h0 hall he
    have hA := rowsA_succ he
    have hC := rowsC_succ he
    have hsit : ∀ s ∈ seatsV x e, ∃ t, x.sits[s.sit]? = some t := fun s hs => seats_sit hs
    generalize rowsA x i = SA at *
    generalize rowsC x i = SC at *
    generalize seatsV x e = Q at *
    by_cases hb : Q.length ≤ 24
    · repeat' (first | (refine fh_ob ?_) | ((change vcFun _ _ _ _ _; refine call_frz rfl (by repeat' (first | trivial | refine And.intro ?_ ?_ | (show 0 + _ ≤ List.length _; simp))) ALeL.refl hsp ?_; rintro _ rfl)) | refine o1 ?_ | refine o2 ?_ | refine k1 ?_ | refine k2 ?_ | refine k3 ?_ | refine k4 ?_ | refine k6 ?_ | refine And.intro ?_ ?_ | (intro h; first | exact Bool.noConfusion h | exact nz _ h | exact nl h | (simp at h; done) | (simp at h; first | (exfalso; omega) | skip) | skip) | refine eqv_len_map ?_ | fail)
      refine loop_for (fun k : Nat => [(1, .ptr 0 8 0 0), (2, .ptr 1 4 0 0), (3, vint .i64 0), (5, .ptr 2 4 0 0), (6, slP 4 1 SA), (7, vint .i64 i), (8, .pv (.sl 2 (Q.map Seat.row))), (9, slP 5 6 (rowsO x (Q.take k))), (10, vint .i64 k)]) (fun k => [some ⟨33, 8, false, .box (pvs x.cells)⟩, some ⟨51, 4, false, .box (pvs zeroM)⟩, some ⟨51, 4, false, .box [slP 3 1 SC, nilA, nilA, vint .i64 7]⟩, obP 73 1 SC, obP 109 1 SA, obP 76 6 (rowsO x (Q.take k))]) (fun k => k ≤ Q.length) (fun k => Q.length - k) 0 (Nat.zero_le _) ?_ ?_
      · exact back [0, 1, 2, 3, 4, 5] rfl rfl (by repeat' (first | exact trivial | exact rfl | refine kept_ob rfl ?_ | refine kept_bx ren_m0 rfl ?_ | refine And.intro ?_ ?_)) (by repeat' (first | exact trivial | exact rfl | exact ren_get rfl | refine And.intro ?_ ?_))
      intro k hk
      have htk : (Q.take k).length ≤ 24 := Nat.le_trans (List.length_take_le' ..) hb
      rcases Nat.lt_or_ge k Q.length with hkl | hkg
      · obtain ⟨s, hs⟩ := getE hkl
        obtain ⟨t, ht⟩ := hsit s (List.mem_of_getElem? hs)
        have hU := take_snoc hs
        have c2 := c_rtime t
        have hop : optB (optS x s) = _ := optB_at (i := s.sit) (r := s.room) ht
        generalize Q.take k = U at *
        by_cases hco : 0 < t.cost
        · rw [if_pos hco] at hop
          repeat' (first | (refine join_in (a := .seq (.region 18 _ _) _) (fun _ : Unit => []) (fun _ => [some ⟨33, 8, false, .box (pvs x.cells)⟩, some ⟨51, 4, false, .box (pvs zeroM)⟩, some ⟨51, 4, false, .box [slP 3 1 SC, nilA, nilA, vint .i64 7]⟩, obP 73 1 SC, obP 109 1 SA, obP 76 6 (rowsO x U), some ⟨23, 4, false, .box (pvs t.row)⟩, some ⟨76, 6, false, .box [.pv (ei (timeOf t).weeks), .pv (ei (timeOf t).day), .pv (ei (timeOf t).start), .pv (ei (timeOf t).len), .pv (ei s.room), .pv (.sl 2 [[ei 5, ei t.cost]])]⟩]) (fun _ => True) ⟨?_, ?_⟩) | (refine fh_ob ?_) | (refine idx_sl (k := k) (at_map hs) rfl ?_) | (refine idx_sl (k := s.sit) (at_map ht) rfl ?_) | refine o1 ?_ | refine o2 ?_ | refine k1 ?_ | refine k2 ?_ | refine k3 ?_ | refine k4 ?_ | refine k6 ?_ | refine And.intro ?_ ?_ | refine o3 ?_ | refine o4 ?_ | (intro h; first | exact Bool.noConfusion h | exact nz _ h | exact nl h | (simp at h; done) | (simp at h; first | (exfalso; omega) | skip) | skip) | exact (by kernel_rfl : drawOk _ _ = true) | refine eqv_len_map ?_ | (change vcFunD _ _ _ _ _; refine callD_eq rfl (by repeat' (first | trivial | refine And.intro ?_ ?_ | (show 0 + _ ≤ List.length _; simp))) ALeL.refl (c2) rfl ?_) | fail)
          · exact ⟨(), True.intro, Ghost.shut_sl (i := 7) (c := 5) (id := 8) (ty := 114) (rows := [[ei 5, ei t.cost]]) rfl rfl rfl (by decide) fun H' hl h2 hH => back [0, 1, 2, 3, 4, 5, 6, 7] rfl rfl (And.intro (hH 0 (by decide) (by decide)) (And.intro (hH 1 (by decide) (by decide)) (kept_bx ren_m0 (hH 2 (by decide) (by decide)) (kept_ob (hH 3 (by decide) (by decide)) (kept_ob (hH 4 (by decide) (by decide)) (kept_ob (hH 5 (by decide) (by decide)) (And.intro (hH 6 (by decide) (by decide)) (And.intro h2 trivial)))))))) (by repeat' (first | exact trivial | exact rfl | exact ren_get rfl | refine And.intro ?_ ?_))⟩
          refine ⟨fun _ _ => ?_⟩
          repeat' (first | (refine fv_sl ?_) | (refine fh_ob ?_) | ((refine o_app rfl rfl rfl rfl rfl rfl rfl rfl rfl rfl rfl (by rw [rowsO_len]; omega) (by rw [rowsO_len]; omega) ?_)) | refine o1 ?_ | refine o2 ?_ | refine k2 ?_ | refine eqv_wrap (by omega) (by omega) ?_ | fail)
          refine ⟨k + 1, by omega, by omega, ?_⟩
          rw [hU, rowsO_snoc, hop, sl_app, ob_app]
          exact back [0, 1, 2, 3, 4, 9] rfl rfl (by repeat' (first | exact trivial | exact rfl | refine kept_ob rfl ?_ | refine kept_bx ren_m0 rfl ?_ | refine And.intro ?_ ?_)) (by repeat' (first | exact trivial | exact rfl | exact ren_get rfl | refine And.intro ?_ ?_))
        · rw [if_neg hco] at hop
          repeat' (first | (refine fv_sl ?_) | (refine fh_ob ?_) | (refine idx_sl (k := k) (at_map hs) rfl ?_) | (refine idx_sl (k := s.sit) (at_map ht) rfl ?_) | ((refine o_app rfl rfl rfl rfl rfl rfl rfl rfl rfl rfl rfl (by rw [rowsO_len]; omega) (by rw [rowsO_len]; omega) ?_)) | refine o1 ?_ | refine o2 ?_ | refine k1 ?_ | refine k2 ?_ | refine k3 ?_ | refine k4 ?_ | refine k6 ?_ | refine And.intro ?_ ?_ | refine o3 ?_ | refine o4 ?_ | (intro h; first | exact Bool.noConfusion h | exact nz _ h | exact nl h | (simp at h; done) | (simp at h; first | (exfalso; omega) | skip) | skip) | exact (by kernel_rfl : drawOk _ _ = true) | refine eqv_len_map ?_ | refine eqv_wrap (by omega) (by omega) ?_ | (change vcFunD _ _ _ _ _; refine callD_eq rfl (by repeat' (first | trivial | refine And.intro ?_ ?_ | (show 0 + _ ≤ List.length _; simp))) ALeL.refl (c2) rfl ?_) | fail)
          refine ⟨k + 1, by omega, by omega, ?_⟩
          rw [hU, rowsO_snoc, hop, sl_app, ob_app]
          exact back [0, 1, 2, 3, 4, 9] rfl rfl (by repeat' (first | exact trivial | exact rfl | refine kept_ob rfl ?_ | refine kept_bx ren_m0 rfl ?_ | refine And.intro ?_ ?_)) (by repeat' (first | exact trivial | exact rfl | exact ren_get rfl | refine And.intro ?_ ?_))
      obtain rfl : k = Q.length := by omega
      refine forceH_in ?_
      rw [List.take_length]
      refine ghost_seq (Γ' := [(1, .ptr 0 8 0 0), (2, .ptr 1 4 0 0), (3, vint .i64 0), (5, .ptr 2 4 0 0), (6, slP 4 1 SA), (7, vint .i64 i), (8, .pv (.sl 2 (Q.map Seat.row))), (9, .pv (.sl 6 (rowsO x Q))), (10, vint .i64 Q.length)]) (H' := [some ⟨33, 8, false, .box (pvs x.cells)⟩, some ⟨51, 4, false, .box (pvs zeroM)⟩, some ⟨51, 4, false, .box [slP 3 1 SC, nilA, nilA, vint .i64 7]⟩, obP 73 1 SC, obP 109 1 SA])
        (Ghost.sl (s := 9) (id := 5) rfl rfl fun H' hl hH => back [0, 1, 2, 3, 4] rfl rfl (And.intro (hH 0 (by decide)) (And.intro (hH 1 (by decide)) (kept_bx ren_m0 (hH 2 (by decide)) (kept_ob (hH 3 (by decide)) (kept_ob (hH 4 (by decide)) trivial))))) (by repeat' (first | exact trivial | exact rfl | exact ren_get rfl | refine And.intro ?_ ?_))) ?_
      repeat' (first | (refine fv_sl ?_) | (refine fh_ob ?_) | ((refine o_app rfl rfl rfl rfl rfl rfl rfl rfl rfl rfl rfl (by omega) (by omega) ?_)) | refine o1 ?_ | refine o2 ?_ | refine k1 ?_ | refine k2 ?_ | refine k3 ?_ | refine k8 ?_ | refine And.intro ?_ ?_ | (intro h; first | exact Bool.noConfusion h | exact nz _ h | exact nl h | (simp at h; done) | (simp at h; first | (exfalso; omega) | skip) | skip) | refine eqv_len_map ?_ | refine eqv_wrap (by omega) (by omega) ?_ | fail)
      refine ⟨i + 1, ⟨by omega, all_lt_succ hall (by rw [hsz, if_neg (by omega)])⟩, by omega, ?_⟩
      rw [hA, hC, sl_app, sl_app, ob_app, ob_app]
      exact back [0, 1, 2, 8, 6] rfl rfl (by repeat' (first | exact trivial | exact rfl | refine And.intro ?_ ?_)) (by repeat' (first | exact trivial | exact rfl | refine And.intro ?_ ?_))
    · obtain ⟨e1, e2⟩ := hbad hb
      rw [e1, e2]
      repeat' (first | (refine fh_ob ?_) | ((change vcFun _ _ _ _ _; refine call_frz rfl (by repeat' (first | trivial | refine And.intro ?_ ?_ | (show 0 + _ ≤ List.length _; simp))) ALeL.refl hsp ?_; rintro _ rfl)) | refine o1 ?_ | refine o2 ?_ | refine k1 ?_ | refine k2 ?_ | refine k3 ?_ | refine k4 ?_ | refine k6 ?_ | refine k7 ?_ | refine And.intro ?_ ?_ | (intro h; first | exact Bool.noConfusion h | exact nz _ h | exact nl h | (simp at h; done) | (simp at h; first | (exfalso; omega) | skip) | skip) | refine eqv_len_map ?_ | fail)
      all_goals
        change retOk _ _ _ _; refine ret_pure rfl (by repeat' (first | exact True.intro | refine And.intro ?_ ?_)) ?_
        exact ⟨ALe.tup ⟨ALe.agg le_zeroM, ALe.refl, trivial⟩⟩
  · obtain rfl : i = x.exams.length := by omega
    obtain ⟨e1, e2, h24⟩ := good_build h0 hall
    rw [e1, e2, rowsA_all]
    have hle := le_rowsC (x := x)
    generalize rowsC x x.exams.length = CR at *
    have hSl : (setsX x).length = x.exams.length := List.length_map _
    have hSat : ∀ (i : Nat) A, (setsX x)[i]? = some A → ∃ e, x.exams[i]? = some e ∧ A.length ≤ 24 ∧ (∀ s ∈ A, ∃ t, x.sits[s.sit]? = some t) ∧ ∀ (j k : Nat) p q, A[j]? = some p → A[k]? = some q → p.sit = q.sit → p.room = q.room → j = k := fun i A hA => by
      unfold setsX at hA
      rw [List.getElem?_map] at hA
      obtain ⟨e, he, rfl⟩ := Option.map_eq_some_iff.1 hA
      exact ⟨e, he, h24 e (List.mem_of_getElem? he), fun s hs => seats_sit hs, fun j k p q h1 h2 => seats_uniq h1 h2⟩
    refine forceH_in ?_
    refine ghost_seq (Γ' := [(1, .ptr 0 8 0 0), (2, .ptr 1 4 0 0), (3, vint .i64 0), (5, .ptr 2 4 0 0), (6, .pv (.sl 1 ((setsX x).map seatsRow))), (7, vint .i64 x.exams.length)]) (H' := [some ⟨33, 8, false, .box (pvs x.cells)⟩, some ⟨51, 4, false, .box (pvs zeroM)⟩, some ⟨51, 4, false, .box [slP 3 1 CR, nilA, nilA, vint .i64 7]⟩, obP 73 1 CR])
      (Ghost.sl (s := 6) (id := 4) rfl rfl fun H' hl hH => back [0, 1, 2, 3] rfl rfl (And.intro (hH 0 (by decide)) (And.intro (hH 1 (by decide)) (kept_bx ren_m0 (hH 2 (by decide)) (kept_ob (hH 3 (by decide)) trivial)))) (by repeat' (first | exact trivial | exact rfl | refine And.intro ?_ ?_))) ?_
    refine ghost_seq (Γ' := [(1, .ptr 0 8 0 0), (2, .ptr 1 4 0 0), (3, vint .i64 0), (5, .ptr 2 4 0 0), (6, .pv (.sl 1 ((setsX x).map seatsRow))), (7, vint .i64 x.exams.length)]) (H' := [some ⟨33, 8, false, .box (pvs x.cells)⟩, some ⟨51, 4, false, .box (pvs zeroM)⟩, some ⟨51, 4, false, .box [.pv (.sl 1 CR), nilA, nilA, vint .i64 7]⟩])
      (Ghost.shut_sl (i := 2) (c := 0) (id := 3) rfl rfl rfl (by decide) fun H' hl h2 hH => back [0, 1, 2] rfl rfl (And.intro (hH 0 (by decide) (by decide)) (And.intro (hH 1 (by decide) (by decide)) (And.intro h2 trivial))) (by repeat' (first | exact trivial | exact rfl | refine And.intro ?_ ?_))) ?_
    repeat' (first | refine o1 ?_ | refine o2 ?_ | refine k1 ?_ | refine k2 ?_ | refine k3 ?_ | refine k4 ?_ | refine k8 ?_ | refine And.intro ?_ ?_ | (intro h; first | exact Bool.noConfusion h | exact nz _ h | exact nl h | (simp at h; done) | (simp at h; first | (exfalso; omega) | skip) | skip) | refine eqv_len_map ?_ | fail)
    refine loop_for (fun u : Nat => [(1, .ptr 0 8 0 0), (2, .ptr 1 4 0 0), (3, vint .i64 0), (5, .ptr 2 4 0 0), (6, .pv (.sl 1 ((setsX x).map seatsRow))), (13, vint .i64 u)]) (fun u => [some ⟨33, 8, false, .box (pvs x.cells)⟩, some ⟨51, 4, false, .box (pvs zeroM)⟩, some ⟨51, 4, false, .box [.pv (.sl 1 CR), slP 3 4 ((prsU (setsX x) (entX x) u).map Pair.row), nilA, vint .i64 7]⟩, obP 116 4 ((prsU (setsX x) (entX x) u).map Pair.row)]) (fun u => u ≤ 7) (fun u => 7 - u) 0 (by omega) ?_ ?_
    · exact back [0, 1, 2, 3] rfl rfl (by repeat' (first | exact trivial | exact rfl | refine kept_bx ren_m1 rfl ?_ | refine And.intro ?_ ?_)) (by repeat' (first | exact trivial | exact rfl | refine And.intro ?_ ?_))
    intro u hu
    have lu := prsU_len (S := setsX x) (E := entX x) (u := u)
    have hSS : (setsX x).length * (setsX x).length ≤ 6 * 6 := Nat.mul_le_mul (by omega) (by omega)
    have hSU : u * ((setsX x).length * (setsX x).length) ≤ 7 * (6 * 6) := Nat.mul_le_mul hu hSS
    rcases Nat.lt_or_ge u 7 with hu7 | hu7
    · repeat' (first | (refine fh_ob ?_) | refine o1 ?_ | refine o2 ?_ | refine k1 ?_ | refine k2 ?_ | refine k3 ?_ | refine k4 ?_ | refine k6 ?_ | refine And.intro ?_ ?_ | (intro h; first | exact Bool.noConfusion h | exact nz _ h | exact nl h | (simp at h; done) | (simp at h; first | (exfalso; omega) | skip) | skip) | fail)
      refine loop_for (fun i : Nat => [(1, .ptr 0 8 0 0), (2, .ptr 1 4 0 0), (3, vint .i64 0), (5, .ptr 2 4 0 0), (6, .pv (.sl 1 ((setsX x).map seatsRow))), (13, vint .i64 u), (14, vint .i64 i)]) (fun i => [some ⟨33, 8, false, .box (pvs x.cells)⟩, some ⟨51, 4, false, .box (pvs zeroM)⟩, some ⟨51, 4, false, .box [.pv (.sl 1 CR), slP 3 4 ((prsUi (setsX x) (entX x) u i).map Pair.row), nilA, vint .i64 7]⟩, obP 116 4 ((prsUi (setsX x) (entX x) u i).map Pair.row)]) (fun i => i ≤ (setsX x).length) (fun i => (setsX x).length - i) 0 (Nat.zero_le _) ?_ ?_
      · rw [prsUi_zero]
        exact back [0, 1, 2, 3] rfl rfl (by repeat' (first | exact trivial | exact rfl | refine kept_ob rfl ?_ | refine kept_bx ren_m1 rfl ?_ | refine And.intro ?_ ?_)) (by repeat' (first | exact trivial | exact rfl | refine And.intro ?_ ?_))
      intro i hi
      rcases Nat.lt_or_ge i (setsX x).length with hil | hig
      · repeat' (first | (refine fh_ob ?_) | refine o1 ?_ | refine o2 ?_ | refine k1 ?_ | refine k2 ?_ | refine k3 ?_ | refine k4 ?_ | refine k6 ?_ | refine And.intro ?_ ?_ | (intro h; first | exact Bool.noConfusion h | exact nz _ h | exact nl h | (simp at h; done) | (simp at h; first | (exfalso; omega) | skip) | skip) | refine eqv_len_map ?_ | refine eqv_wrap (by omega) (by omega) ?_ | fail)
        refine loop_for (fun k : Nat => [(1, .ptr 0 8 0 0), (2, .ptr 1 4 0 0), (3, vint .i64 0), (5, .ptr 2 4 0 0), (6, .pv (.sl 1 ((setsX x).map seatsRow))), (13, vint .i64 u), (14, vint .i64 i), (15, vint .i64 k)]) (fun k => [some ⟨33, 8, false, .box (pvs x.cells)⟩, some ⟨51, 4, false, .box (pvs zeroM)⟩, some ⟨51, 4, false, .box [.pv (.sl 1 CR), slP 3 4 ((prsUk (setsX x) (entX x) u i k).map Pair.row), nilA, vint .i64 7]⟩, obP 116 4 ((prsUk (setsX x) (entX x) u i k).map Pair.row)]) (fun k => i + 1 ≤ k ∧ k ≤ (setsX x).length) (fun k => (setsX x).length - k) (i + 1) ⟨Nat.le_refl _, hil⟩ ?_ ?_
        · rw [prsUk_begin]
          exact back [0, 1, 2, 3] rfl rfl (by repeat' (first | exact trivial | exact rfl | refine kept_ob rfl ?_ | refine kept_bx ren_m1 rfl ?_ | refine And.intro ?_ ?_)) (by repeat' (first | exact trivial | exact rfl | refine And.intro ?_ ?_))
        intro k ⟨hk1, hk2⟩
        have lk := prsUk_len (S := setsX x) (E := entX x) (u := u) (i := i) (k := k) (by omega) (by omega)
        have hUU : (u + 1) * ((setsX x).length * (setsX x).length) ≤ 8 * (6 * 6) := Nat.mul_le_mul (by omega) hSS
        rcases Nat.lt_or_ge k (setsX x).length with hkl | hkg
        · obtain ⟨A, hA⟩ := getE hil
          obtain ⟨Bk, hBk⟩ := getE hkl
          obtain ⟨e, he, hAl, hsA, -⟩ := hSat i A hA
          obtain ⟨f, hf, hBl, hsB, -⟩ := hSat k Bk hBk
          have hpo : ((tabS (entX x) u i k A Bk).any fun n => n != 0) = true → (prsUk (setsX x) (entX x) u i (k + 1)).map Pair.row = (prsUk (setsX x) (entX x) u i k).map Pair.row ++ [Pair.row ⟨i, k, u, tabS (entX x) u i k A Bk⟩] := fun h => by
            rw [prsUk_some (p := ⟨i, k, u, tabS (entX x) u i k A Bk⟩) (by unfold pairS; rw [hA, hBk]; exact if_pos ⟨by omega, h⟩), map_snoc]
          have hpn : ((tabS (entX x) u i k A Bk).any fun n => n != 0) = false → (prsUk (setsX x) (entX x) u i (k + 1)).map Pair.row = (prsUk (setsX x) (entX x) u i k).map Pair.row := fun h => by
            rw [prsUk_none (by unfold pairS; rw [hA, hBk]; exact if_neg fun q => by rw [h] at q; cases q.2)]
          have lPR : ((prsUk (setsX x) (entX x) u i k).map Pair.row).length ≤ 1000 := by rw [List.length_map]; omega
          generalize hPR : (prsUk (setsX x) (entX x) u i k).map Pair.row = PR at *
          repeat' (first | (refine fh_ob ?_) | refine o1 ?_ | refine o2 ?_ | refine k1 ?_ | refine k2 ?_ | refine k3 ?_ | refine k4 ?_ | refine k6 ?_ | refine And.intro ?_ ?_ | (intro h; first | exact Bool.noConfusion h | exact nz _ h | exact nl h | (simp at h; done) | (simp at h; first | (exfalso; omega) | skip) | skip) | exact (by kernel_rfl : drawOk _ _ = true) | refine eqv_len_map ?_ | fail)
          refine loop_for (fun a : Nat => [(1, .ptr 0 8 0 0), (2, .ptr 1 4 0 0), (3, vint .i64 0), (5, .ptr 2 4 0 0), (6, .pv (.sl 1 ((setsX x).map seatsRow))), (13, vint .i64 u), (14, vint .i64 i), (15, vint .i64 k), (16, .ptr 4 4 0 0), (17, vbool ((gr (rowS (entX x) u i k A Bk) a).any fun n => n != 0)), (18, vint .i64 a)]) (fun a => [some ⟨33, 8, false, .box (pvs x.cells)⟩, some ⟨51, 4, false, .box (pvs zeroM)⟩, some ⟨51, 4, false, .box [.pv (.sl 1 CR), slP 3 4 PR, nilA, vint .i64 7]⟩, obP 116 4 PR, some ⟨116, 4, false, .box [vint .i64 i, vint .i64 k, vint .i64 u, slP 5 1 ((gr (rowS (entX x) u i k A Bk) a).map fun n => [ei n])]⟩, obP 3 1 ((gr (rowS (entX x) u i k A Bk) a).map fun n => [ei n])]) (fun a => a ≤ A.length) (fun a => A.length - a) 0 (Nat.zero_le _) ?_ ?_
          · exact back [0, 1, 2, 3, 4, 5] rfl rfl (by repeat' (first | exact trivial | exact rfl | refine kept_ob rfl ?_ | refine kept_bx ren_m1 rfl ?_ | refine kept_bx ren_bx3 rfl ?_ | refine And.intro ?_ ?_)) (by repeat' (first | exact trivial | exact rfl | refine And.intro ?_ ?_))
          intro a ha
          have htl := gr_len (F := rowS (entX x) u i k A Bk) (m := Bk.length) (fun i => rowS_len) a
          have htb : a * Bk.length ≤ 24 * 24 := Nat.mul_le_mul (by omega) hBl
          rcases Nat.lt_or_ge a A.length with hal | hag
          · obtain ⟨s, hs⟩ := getE hal
            obtain ⟨ss, hss⟩ := hsA s (List.mem_of_getElem? hs)
            repeat' (first | (refine fh_ob ?_) | (refine idx_sl (k := i) (at_map hA) rfl ?_) | refine o1 ?_ | refine o2 ?_ | refine k1 ?_ | refine k2 ?_ | refine k3 ?_ | refine k4 ?_ | refine k6 ?_ | refine And.intro ?_ ?_ | (intro h; first | exact Bool.noConfusion h | exact nz _ h | exact nl h | (simp at h; done) | (simp at h; first | (exfalso; omega) | skip) | skip) | refine eqv_len_map ?_ | fail)
            refine loop_for (fun b : Nat => [(1, .ptr 0 8 0 0), (2, .ptr 1 4 0 0), (3, vint .i64 0), (5, .ptr 2 4 0 0), (6, .pv (.sl 1 ((setsX x).map seatsRow))), (13, vint .i64 u), (14, vint .i64 i), (15, vint .i64 k), (16, .ptr 4 4 0 0), (17, vbool ((gr (rowS (entX x) u i k A Bk) a ++ (rowS (entX x) u i k A Bk a).take b).any fun n => n != 0)), (18, vint .i64 a), (19, vint .i64 b)]) (fun b => [some ⟨33, 8, false, .box (pvs x.cells)⟩, some ⟨51, 4, false, .box (pvs zeroM)⟩, some ⟨51, 4, false, .box [.pv (.sl 1 CR), slP 3 4 PR, nilA, vint .i64 7]⟩, obP 116 4 PR, some ⟨116, 4, false, .box [vint .i64 i, vint .i64 k, vint .i64 u, slP 5 1 ((gr (rowS (entX x) u i k A Bk) a ++ (rowS (entX x) u i k A Bk a).take b).map fun n => [ei n])]⟩, obP 3 1 ((gr (rowS (entX x) u i k A Bk) a ++ (rowS (entX x) u i k A Bk a).take b).map fun n => [ei n])]) (fun b => b ≤ Bk.length) (fun b => Bk.length - b) 0 (Nat.zero_le _) ?_ ?_
            · rw [gr_none]
              exact back [0, 1, 2, 3, 4, 5] rfl rfl (by repeat' (first | exact trivial | exact rfl | refine kept_ob rfl ?_ | refine kept_bx ren_m1 rfl ?_ | refine kept_bx ren_bx3 rfl ?_ | refine And.intro ?_ ?_)) (by repeat' (first | exact trivial | exact rfl | refine And.intro ?_ ?_))
            intro b hb
            have hrl := rowS_len (E := entX x) (u := u) (i := i) (k := k) (A := A) (B := Bk) (a := a)
            have htk : ((rowS (entX x) u i k A Bk a).take b).length ≤ 24 := Nat.le_trans (List.length_take_le' ..) (by omega)
            have htt : (gr (rowS (entX x) u i k A Bk) a ++ (rowS (entX x) u i k A Bk a).take b).length ≤ 1000 := by rw [List.length_append]; omega
            rcases Nat.lt_or_ge b Bk.length with hbl | hbg
            · obtain ⟨t, ht⟩ := getE hbl
              obtain ⟨tt, htt2⟩ := hsB t (List.mem_of_getElem? ht)
              have hnx := gr_next (F := rowS (entX x) u i k A Bk) (rowS_get (E := entX x) (u := u) (i := i) (k := k) hs ht)
              have hcall : PCall Tryz.prog 50 [ag x.cells, vint .i64 u, vint .i64 i, vint .i64 k, ag s.row, ag t.row] (fun r => r = vint .i64 (entX x u i k s t)) := by
                rw [entX_at hss htt2 he hf]
                exact c_rentry x u i k s t ss tt e f h0 hss htt2 he hf
              have hlo := (entX_lo (u := u) (i := i) (k := k) (a := s) (b := t) h0).1
              generalize entX x u i k s t = n at *
              have hnz : (n != 0) = decide (n > 0) := by
                by_cases h : n = 0
                · subst h; rfl
                · rw [show (n != 0) = true by simp [h], decide_eq_true (show n > 0 by omega)]
              generalize gr (rowS (entX x) u i k A Bk) a ++ (rowS (entX x) u i k A Bk a).take b = T0 at *
              generalize hbb : (T0.any fun n => n != 0) = bb at *
              cases bb
              all_goals
                repeat' (first | (refine fv_sl ?_) | (refine fh_ob ?_) | (refine idx_sl (k := i) (at_map hA) rfl ?_) | (refine idx_sl (k := k) (at_map hBk) rfl ?_) | (refine idx_sl (k := a) (at_map hs) rfl ?_) | (refine idx_sl (k := b) (at_map ht) rfl ?_) | ((refine o_app rfl rfl rfl rfl rfl rfl rfl rfl rfl rfl rfl (by rw [List.length_map]; omega) (by rw [List.length_map]; omega) ?_)) | refine o1 ?_ | refine o2 ?_ | refine k1 ?_ | refine k2 ?_ | refine k3 ?_ | refine k4 ?_ | refine k6 ?_ | refine And.intro ?_ ?_ | refine o3 ?_ | refine o4 ?_ | (intro h; first | exact Bool.noConfusion h | exact nz _ h | exact nl h | (simp at h; done) | (simp at h; first | (exfalso; omega) | skip) | skip) | exact (by kernel_rfl : drawOk _ _ = true) | refine eqv_len_map ?_ | refine eqv_wrap (by omega) (by omega) ?_ | (change vcFunD _ _ _ _ _; refine callD_eq rfl (by repeat' (first | trivial | refine And.intro ?_ ?_ | (show 0 + _ ≤ List.length _; simp))) ALeL.refl (hcall) rfl ?_) | fail)
              all_goals
                refine ⟨b + 1, by omega, by omega, ?_⟩
                rw [hnx, any_snoc, hbb, hnz, map_snoc, sl_app, ob_app]
                exact back [0, 1, 2, 3, 4, 7] rfl rfl (by repeat' (first | exact trivial | exact rfl | refine kept_ob rfl ?_ | refine kept_bx ren_m1 rfl ?_ | refine And.intro ?_ ?_)) (by repeat' (first | exact trivial | exact rfl | refine And.intro ?_ ?_))
            obtain rfl : b = Bk.length := by omega
            repeat' (first | (refine fh_ob ?_) | (refine idx_sl (k := k) (at_map hBk) rfl ?_) | refine o1 ?_ | refine o2 ?_ | refine k1 ?_ | refine k2 ?_ | refine k3 ?_ | refine k8 ?_ | refine And.intro ?_ ?_ | (intro h; first | exact Bool.noConfusion h | exact nz _ h | exact nl h | (simp at h; done) | (simp at h; first | (exfalso; omega) | skip) | skip) | refine eqv_len_map ?_ | refine eqv_wrap (by omega) (by omega) ?_ | fail)
            refine ⟨a + 1, by omega, by omega, ?_⟩
            rw [gr_all hrl]
            exact back [0, 1, 2, 3, 4, 5] rfl rfl (by repeat' (first | exact trivial | exact rfl | refine kept_ob rfl ?_ | refine kept_bx ren_m1 rfl ?_ | refine kept_bx ren_bx3 rfl ?_ | refine And.intro ?_ ?_)) (by repeat' (first | exact trivial | exact rfl | refine And.intro ?_ ?_))
          obtain rfl : a = A.length := by omega
          refine forceH_in ?_
          change xCode _ _ _ _ _ _ [(1, .ptr 0 8 0 0), (2, .ptr 1 4 0 0), (3, vint .i64 0), (5, .ptr 2 4 0 0), (6, .pv (.sl 1 ((setsX x).map seatsRow))), (13, vint .i64 u), (14, vint .i64 i), (15, vint .i64 k), (16, .ptr 4 4 0 0), (17, vbool ((tabS (entX x) u i k A Bk).any fun n => n != 0)), (18, vint .i64 A.length)] [some ⟨33, 8, false, .box (pvs x.cells)⟩, some ⟨51, 4, false, .box (pvs zeroM)⟩, some ⟨51, 4, false, .box [.pv (.sl 1 CR), slP 3 4 PR, nilA, vint .i64 7]⟩, obP 116 4 PR, some ⟨116, 4, false, .box [vint .i64 i, vint .i64 k, vint .i64 u, slP 5 1 ((tabS (entX x) u i k A Bk).map fun n => [ei n])]⟩, obP 3 1 ((tabS (entX x) u i k A Bk).map fun n => [ei n])]
          generalize hQ : ((tabS (entX x) u i k A Bk).any fun n => n != 0) = g at *
          generalize tabS (entX x) u i k A Bk = TB at *
          refine ghost_seq (Γ' := [(1, .ptr 0 8 0 0), (2, .ptr 1 4 0 0), (3, vint .i64 0), (5, .ptr 2 4 0 0), (6, .pv (.sl 1 ((setsX x).map seatsRow))), (13, vint .i64 u), (14, vint .i64 i), (15, vint .i64 k), (16, .ptr 4 4 0 0), (17, vbool g), (18, vint .i64 A.length)]) (H' := [some ⟨33, 8, false, .box (pvs x.cells)⟩, some ⟨51, 4, false, .box (pvs zeroM)⟩, some ⟨51, 4, false, .box [.pv (.sl 1 CR), slP 3 4 PR, nilA, vint .i64 7]⟩, obP 116 4 PR, some ⟨116, 4, false, .box [vint .i64 i, vint .i64 k, vint .i64 u, .pv (.sl 1 ((TB).map fun n => [ei n]))]⟩])
            (Ghost.shut_sl (i := 4) (c := 3) (id := 5) rfl rfl rfl (by decide) fun H' hl h2 hH => back [0, 1, 2, 3, 4] rfl rfl (And.intro (hH 0 (by decide) (by decide)) (And.intro (hH 1 (by decide) (by decide)) (kept_bx ren_m1 (hH 2 (by decide) (by decide)) (kept_ob (hH 3 (by decide) (by decide)) (And.intro h2 trivial))))) (by repeat' (first | exact trivial | exact rfl | refine And.intro ?_ ?_))) ?_
          cases g
          · repeat' (first | (refine idx_sl (k := i) (at_map hA) rfl ?_) | refine o1 ?_ | refine o2 ?_ | refine k1 ?_ | refine k2 ?_ | refine k3 ?_ | refine k6 ?_ | refine k8 ?_ | refine And.intro ?_ ?_ | (intro h; first | exact Bool.noConfusion h | exact nz _ h | exact nl h | (simp at h; done) | (simp at h; first | (exfalso; omega) | skip) | skip) | refine eqv_len_map ?_ | refine eqv_wrap (by omega) (by omega) ?_ | fail)
            refine ⟨k + 1, ⟨by omega, by omega⟩, by omega, ?_⟩
            rw [hpn rfl]
            exact back [0, 1, 2, 3] rfl rfl (by repeat' (first | exact trivial | exact rfl | refine kept_ob rfl ?_ | refine kept_bx ren_m1 rfl ?_ | refine And.intro ?_ ?_)) (by repeat' (first | exact trivial | exact rfl | refine And.intro ?_ ?_))
          · repeat' (first | (refine fv_sl ?_) | (refine fh_ob ?_) | (refine idx_sl (k := i) (at_map hA) rfl ?_) | ((refine o_app rfl rfl rfl rfl rfl rfl rfl rfl rfl rfl rfl (by omega) (by omega) ?_)) | refine o1 ?_ | refine o2 ?_ | refine k1 ?_ | refine k2 ?_ | refine k3 ?_ | refine k8 ?_ | refine And.intro ?_ ?_ | (intro h; first | exact Bool.noConfusion h | exact nz _ h | exact nl h | (simp at h; done) | (simp at h; first | (exfalso; omega) | skip) | skip) | refine eqv_len_map ?_ | refine eqv_wrap (by omega) (by omega) ?_ | fail)
            refine ⟨k + 1, ⟨by omega, by omega⟩, by omega, ?_⟩
            rw [hpo rfl, sl_app, ob_app]
            exact back [0, 1, 2, 6] rfl rfl (by repeat' (first | exact trivial | exact rfl | refine And.intro ?_ ?_)) (by repeat' (first | exact trivial | exact rfl | refine And.intro ?_ ?_))
        · obtain rfl : k = (setsX x).length := by omega
          repeat' (first | (refine fh_ob ?_) | refine o1 ?_ | refine o2 ?_ | refine k1 ?_ | refine k2 ?_ | refine k3 ?_ | refine k8 ?_ | refine And.intro ?_ ?_ | (intro h; first | exact Bool.noConfusion h | exact nz _ h | exact nl h | (simp at h; done) | (simp at h; first | (exfalso; omega) | skip) | skip) | refine eqv_len_map ?_ | refine eqv_wrap (by omega) (by omega) ?_ | fail)
          refine ⟨i + 1, by omega, by omega, ?_⟩
          rw [prsUk_all]
          exact back [0, 1, 2, 3] rfl rfl (by repeat' (first | exact trivial | exact rfl | refine kept_ob rfl ?_ | refine kept_bx ren_m1 rfl ?_ | refine And.intro ?_ ?_)) (by repeat' (first | exact trivial | exact rfl | refine And.intro ?_ ?_))
      · obtain rfl : i = (setsX x).length := by omega
        repeat' (first | (refine fh_ob ?_) | refine o1 ?_ | refine o2 ?_ | refine k1 ?_ | refine k2 ?_ | refine k3 ?_ | refine k8 ?_ | refine And.intro ?_ ?_ | (intro h; first | exact Bool.noConfusion h | exact nz _ h | exact nl h | (simp at h; done) | (simp at h; first | (exfalso; omega) | skip) | skip) | refine eqv_len_map ?_ | refine eqv_wrap (by omega) (by omega) ?_ | fail)
        refine ⟨u + 1, by omega, by omega, ?_⟩
        rw [prsUi_all]
        exact back [0, 1, 2, 3] rfl rfl (by repeat' (first | exact trivial | exact rfl | refine kept_ob rfl ?_ | refine kept_bx ren_m1 rfl ?_ | refine And.intro ?_ ?_)) (by repeat' (first | exact trivial | exact rfl | refine And.intro ?_ ?_))
    · obtain rfl : u = 7 := by omega
      have hpl : (prsU (setsX x) (entX x) 7).length ≤ 4000 := by omega
      refine forceH_in ?_
      generalize prsU (setsX x) (entX x) 7 = P0 at *
      refine ghost_seq (Γ' := [(1, .ptr 0 8 0 0), (2, .ptr 1 4 0 0), (3, vint .i64 0), (5, .ptr 2 4 0 0), (6, .pv (.sl 1 ((setsX x).map seatsRow))), (13, vint .i64 7)]) (H' := [some ⟨33, 8, false, .box (pvs x.cells)⟩, some ⟨51, 4, false, .box (pvs zeroM)⟩, some ⟨51, 4, false, .box [.pv (.sl 1 CR), .pv (.sl 4 (P0.map Pair.row)), nilA, vint .i64 7]⟩])
        (Ghost.shut_sl (i := 2) (c := 1) (id := 3) rfl rfl rfl (by decide) fun H' hl h2 hH => back [0, 1, 2] rfl rfl (And.intro (hH 0 (by decide) (by decide)) (And.intro (hH 1 (by decide) (by decide)) (And.intro h2 trivial))) (by repeat' (first | exact trivial | exact rfl | refine And.intro ?_ ?_))) ?_
      repeat' (first | refine o1 ?_ | refine o2 ?_ | refine k1 ?_ | refine k2 ?_ | refine k3 ?_ | refine k4 ?_ | refine k8 ?_ | refine And.intro ?_ ?_ | (intro h; first | exact Bool.noConfusion h | exact nz _ h | exact nl h | (simp at h; done) | (simp at h; first | (exfalso; omega) | skip) | skip) | fail)
      refine loop_for (fun a : Nat => [(1, .ptr 0 8 0 0), (2, .ptr 1 4 0 0), (3, vint .i64 0), (5, .ptr 2 4 0 0), (6, .pv (.sl 1 ((setsX x).map seatsRow))), (21, vint .i64 a)]) (fun a => [some ⟨33, 8, false, .box (pvs x.cells)⟩, some ⟨51, 4, false, .box (pvs zeroM)⟩, some ⟨51, 4, false, .box [.pv (.sl 1 CR), .pv (.sl 4 (P0.map Pair.row)), slP 3 4 ((cntS (setsX x) (wtX x) (mostX x) x.rooms.length a).map Count.row), vint .i64 7]⟩, obP 120 4 ((cntS (setsX x) (wtX x) (mostX x) x.rooms.length a).map Count.row)]) (fun a => a ≤ x.sits.length) (fun a => x.sits.length - a) 0 (Nat.zero_le _) ?_ ?_
      · exact back [0, 1, 2, 3] rfl rfl (by repeat' (first | exact trivial | exact rfl | refine kept_bx ren_m2 rfl ?_ | refine And.intro ?_ ?_)) (by repeat' (first | exact trivial | exact rfl | refine And.intro ?_ ?_))
      intro a ha
      have hsn := hl.sits
      have hrn := hl.rooms
      have ln := cntS_len (S := setsX x) (W := wtX x) (most := mostX x) (R := x.rooms.length) (s := a)
      have lb : a * x.rooms.length ≤ 24 * 16 := Nat.mul_le_mul (by omega) hrn
      rcases Nat.lt_or_ge a x.sits.length with hal | hag
      · repeat' (first | (refine fh_ob ?_) | refine o1 ?_ | refine o2 ?_ | refine k1 ?_ | refine k2 ?_ | refine k3 ?_ | refine k4 ?_ | refine k6 ?_ | refine And.intro ?_ ?_ | (intro h; first | exact Bool.noConfusion h | exact nz _ h | exact nl h | (simp at h; done) | (simp at h; first | (exfalso; omega) | skip) | skip) | refine eqv_len_map ?_ | fail)
        refine loop_for (fun c : Nat => [(1, .ptr 0 8 0 0), (2, .ptr 1 4 0 0), (3, vint .i64 0), (5, .ptr 2 4 0 0), (6, .pv (.sl 1 ((setsX x).map seatsRow))), (21, vint .i64 a), (22, vint .i64 c)]) (fun c => [some ⟨33, 8, false, .box (pvs x.cells)⟩, some ⟨51, 4, false, .box (pvs zeroM)⟩, some ⟨51, 4, false, .box [.pv (.sl 1 CR), .pv (.sl 4 (P0.map Pair.row)), slP 3 4 ((cntS (setsX x) (wtX x) (mostX x) x.rooms.length a ++ cntI (setsX x) (wtX x) (mostX x) a c).map Count.row), vint .i64 7]⟩, obP 120 4 ((cntS (setsX x) (wtX x) (mostX x) x.rooms.length a ++ cntI (setsX x) (wtX x) (mostX x) a c).map Count.row)]) (fun c => c ≤ x.rooms.length) (fun c => x.rooms.length - c) 0 (Nat.zero_le _) ?_ ?_
        · rw [show cntI (setsX x) (wtX x) (mostX x) a 0 = [] from rfl, List.append_nil]
          exact back [0, 1, 2, 3] rfl rfl (by repeat' (first | exact trivial | exact rfl | refine kept_ob rfl ?_ | refine kept_bx ren_m2 rfl ?_ | refine And.intro ?_ ?_)) (by repeat' (first | exact trivial | exact rfl | refine And.intro ?_ ?_))
        intro c hc
        have li := cntI_len (S := setsX x) (W := wtX x) (most := mostX x) (s := a) (m := c)
        have lt2 : (cntS (setsX x) (wtX x) (mostX x) x.rooms.length a ++ cntI (setsX x) (wtX x) (mostX x) a c).length ≤ 1000 := by rw [List.length_append]; omega
        rcases Nat.lt_or_ge c x.rooms.length with hcl | hcg
        · obtain ⟨qr, hqr⟩ := getE hcl
          have hm : mostX x c = qr.seats := by unfold mostX; rw [hqr]
          have hco : 1 < (loadsS (setsX x) (wtX x) a c (setsX x).length).length → (cntS (setsX x) (wtX x) (mostX x) x.rooms.length a ++ cntI (setsX x) (wtX x) (mostX x) a (c + 1)).map Count.row = (cntS (setsX x) (wtX x) (mostX x) x.rooms.length a ++ cntI (setsX x) (wtX x) (mostX x) a c).map Count.row ++ [Count.row ⟨1, loadsS (setsX x) (wtX x) a c (setsX x).length, qr.seats, 1099511627776⟩] := fun h => by
            rw [cntI_some (show countS (setsX x) (wtX x) (mostX x) a c = some _ from if_pos h), ← List.append_assoc, map_snoc, hm]
          have hcn : ¬ 1 < (loadsS (setsX x) (wtX x) a c (setsX x).length).length → (cntS (setsX x) (wtX x) (mostX x) x.rooms.length a ++ cntI (setsX x) (wtX x) (mostX x) a (c + 1)).map Count.row = (cntS (setsX x) (wtX x) (mostX x) x.rooms.length a ++ cntI (setsX x) (wtX x) (mostX x) a c).map Count.row := fun h => by
            rw [cntI_none (show countS (setsX x) (wtX x) (mostX x) a c = none from if_neg h)]
          have lNR : ((cntS (setsX x) (wtX x) (mostX x) x.rooms.length a ++ cntI (setsX x) (wtX x) (mostX x) a c).map Count.row).length ≤ 1000 := by rw [List.length_map]; exact lt2
          generalize (cntS (setsX x) (wtX x) (mostX x) x.rooms.length a ++ cntI (setsX x) (wtX x) (mostX x) a c).map Count.row = NR at *
          repeat' (first | (refine fh_ob ?_) | (refine idx_sl (k := c) (at_map hqr) rfl ?_) | refine o1 ?_ | refine o2 ?_ | refine k1 ?_ | refine k2 ?_ | refine k3 ?_ | refine k4 ?_ | refine k6 ?_ | refine And.intro ?_ ?_ | (intro h; first | exact Bool.noConfusion h | exact nz _ h | exact nl h | (simp at h; done) | (simp at h; first | (exfalso; omega) | skip) | skip) | exact (by kernel_rfl : drawOk _ _ = true) | refine eqv_len_map ?_ | fail)
          refine loop_for (fun i : Nat => [(1, .ptr 0 8 0 0), (2, .ptr 1 4 0 0), (3, vint .i64 0), (5, .ptr 2 4 0 0), (6, .pv (.sl 1 ((setsX x).map seatsRow))), (21, vint .i64 a), (22, vint .i64 c), (23, .ptr 4 4 0 0), (24, vint .i64 i)]) (fun i => [some ⟨33, 8, false, .box (pvs x.cells)⟩, some ⟨51, 4, false, .box (pvs zeroM)⟩, some ⟨51, 4, false, .box [.pv (.sl 1 CR), .pv (.sl 4 (P0.map Pair.row)), slP 3 4 NR, vint .i64 7]⟩, obP 120 4 NR, some ⟨120, 4, false, .box [vint .i64 1, slP 5 3 ((loadsS (setsX x) (wtX x) a c i).map Load.row), vint .i64 qr.seats, vint .i64 1099511627776]⟩, obP 122 3 ((loadsS (setsX x) (wtX x) a c i).map Load.row)]) (fun i => i ≤ (setsX x).length) (fun i => (setsX x).length - i) 0 (Nat.zero_le _) ?_ ?_
          · exact back [0, 1, 2, 3, 4, 5] rfl rfl (by repeat' (first | exact trivial | exact rfl | refine kept_ob rfl ?_ | refine kept_bx ren_m2 rfl ?_ | refine kept_bx ren_bxL rfl ?_ | refine And.intro ?_ ?_)) (by repeat' (first | exact trivial | exact rfl | refine And.intro ?_ ?_))
          intro i hi
          have hll := upto_len (l := setsX x) (f := loadF (wtX x) a c) (n := i)
          rcases Nat.lt_or_ge i (setsX x).length with hil | hig
          · obtain ⟨A, hA⟩ := getE hil
            obtain ⟨e, he, hAl, -, huq⟩ := hSat i A hA
            have hw : wtX x i = e.studs.length := by unfold wtX; rw [he]
            have hSo := loads_all (S := setsX x) (W := wtX x) (s := a) (r := c) hA
            rw [hw] at hSo
            have hp0 : partL A a c i e.studs.length 0 = [] := partL_zero
            generalize hLL : loadsS (setsX x) (wtX x) a c i = L at *
            have hll : L.length ≤ i := by rw [← hLL]; exact hll
            repeat' (first | (refine fh_ob ?_) | refine o1 ?_ | refine o2 ?_ | refine k1 ?_ | refine k2 ?_ | refine k3 ?_ | refine k4 ?_ | refine k6 ?_ | refine And.intro ?_ ?_ | (intro h; first | exact Bool.noConfusion h | exact nz _ h | exact nl h | (simp at h; done) | (simp at h; first | (exfalso; omega) | skip) | skip) | refine eqv_len_map ?_ | fail)
            refine loop_for (fun k : Nat => [(1, .ptr 0 8 0 0), (2, .ptr 1 4 0 0), (3, vint .i64 0), (5, .ptr 2 4 0 0), (6, .pv (.sl 1 ((setsX x).map seatsRow))), (21, vint .i64 a), (22, vint .i64 c), (23, .ptr 4 4 0 0), (24, vint .i64 i), (25, vint .i64 k)]) (fun k => [some ⟨33, 8, false, .box (pvs x.cells)⟩, some ⟨51, 4, false, .box (pvs zeroM)⟩, some ⟨51, 4, false, .box [.pv (.sl 1 CR), .pv (.sl 4 (P0.map Pair.row)), slP 3 4 NR, vint .i64 7]⟩, obP 120 4 NR, some ⟨120, 4, false, .box [vint .i64 1, slP 5 3 ((L ++ partL A a c i e.studs.length k).map Load.row), vint .i64 qr.seats, vint .i64 1099511627776]⟩, obP 122 3 ((L ++ partL A a c i e.studs.length k).map Load.row)]) (fun k => k ≤ A.length) (fun k => A.length - k) 0 (Nat.zero_le _) ?_ ?_
            · rw [hp0, List.append_nil]
              exact back [0, 1, 2, 3, 4, 5] rfl rfl (by repeat' (first | exact trivial | exact rfl | refine kept_ob rfl ?_ | refine kept_bx ren_m2 rfl ?_ | refine kept_bx ren_bxL rfl ?_ | refine And.intro ?_ ?_)) (by repeat' (first | exact trivial | exact rfl | refine And.intro ?_ ?_))
            intro k hk
            have hpl2 := partL_len (A := A) (s := a) (r := c) (i := i) (w := e.studs.length) (k := k)
            rcases Nat.lt_or_ge k A.length with hkl | hkg
            · obtain ⟨q, hq⟩ := getE hkl
              have hyes := partL_yes (s := a) (r := c) (i := i) (w := e.studs.length) hq huq
              have hno := partL_no (s := a) (r := c) (i := i) (w := e.studs.length) hq
              have hlen : (L ++ partL A a c i e.studs.length k).length ≤ 1000 := by rw [List.length_append]; omega
              have hyes2 := fun h => show L ++ partL A a c i e.studs.length (k + 1) = (L ++ partL A a c i e.studs.length k) ++ [⟨i, k, e.studs.length⟩] by rw [hyes h, List.append_assoc]
              have hno2 := fun h => show L ++ partL A a c i e.studs.length (k + 1) = L ++ partL A a c i e.studs.length k by rw [hno h]
              generalize L ++ partL A a c i e.studs.length k = L2 at *
              repeat' (first | (refine fv_sl ?_) | (refine fh_ob ?_) | (refine idx_sl (k := i) (at_map hA) rfl ?_) | (refine idx_sl (k := k) (at_map hq) rfl ?_) | (refine idx_sl (k := i) (at_map he) rfl ?_) | ((refine o_appD rfl rfl rfl rfl rfl rfl rfl rfl rfl rfl rfl (by rw [List.length_map]; omega) (by rw [List.length_map]; omega) ?_)) | refine o1 ?_ | refine o2 ?_ | refine k1 ?_ | refine k2 ?_ | refine k3 ?_ | refine k4 ?_ | refine k6 ?_ | refine And.intro ?_ ?_ | refine o3 ?_ | refine o4 ?_ | (intro h; first | exact Bool.noConfusion h | exact nz _ h | exact nl h | (simp at h; done) | (simp at h; first | (exfalso; omega) | skip) | skip) | exact (by kernel_rfl : drawOk _ _ = true) | refine eqv_len_map ?_ | refine eqv_wrap (by omega) (by omega) ?_ | fail)
              all_goals
                refine ⟨k + 1, by omega, by omega, ?_⟩
                first
                  | (rw [hyes2 (by omega), map_snoc, sl_app, ob_app]; exact back [0, 1, 2, 3, 4, 7] rfl rfl (by repeat' (first | exact trivial | exact rfl | refine kept_ob rfl ?_ | refine kept_bx ren_m2 rfl ?_ | refine And.intro ?_ ?_)) (by repeat' (first | exact trivial | exact rfl | refine And.intro ?_ ?_)))
                  | (rw [hno2 (by omega)]; exact back [0, 1, 2, 3, 4, 5] rfl rfl (by repeat' (first | exact trivial | exact rfl | refine kept_ob rfl ?_ | refine kept_bx ren_m2 rfl ?_ | refine kept_bx ren_bxL rfl ?_ | refine And.intro ?_ ?_)) (by repeat' (first | exact trivial | exact rfl | refine And.intro ?_ ?_)))
            · obtain rfl : k = A.length := by omega
              repeat' (first | (refine fh_ob ?_) | (refine idx_sl (k := i) (at_map hA) rfl ?_) | refine o1 ?_ | refine o2 ?_ | refine k1 ?_ | refine k2 ?_ | refine k3 ?_ | refine k8 ?_ | refine And.intro ?_ ?_ | (intro h; first | exact Bool.noConfusion h | exact nz _ h | exact nl h | (simp at h; done) | (simp at h; first | (exfalso; omega) | skip) | skip) | refine eqv_len_map ?_ | refine eqv_wrap (by omega) (by omega) ?_ | fail)
              refine ⟨i + 1, by omega, by omega, ?_⟩
              rw [hSo]
              exact back [0, 1, 2, 3, 4, 5] rfl rfl (by repeat' (first | exact trivial | exact rfl | refine kept_ob rfl ?_ | refine kept_bx ren_m2 rfl ?_ | refine kept_bx ren_bxL rfl ?_ | refine And.intro ?_ ?_)) (by repeat' (first | exact trivial | exact rfl | refine And.intro ?_ ?_))
          · obtain rfl : i = (setsX x).length := by omega
            have hll : (loadsS (setsX x) (wtX x) a c (setsX x).length).length ≤ (setsX x).length := hll
            generalize loadsS (setsX x) (wtX x) a c (setsX x).length = L at *
            refine forceH_in ?_
            refine ghost_seq (Γ' := [(1, .ptr 0 8 0 0), (2, .ptr 1 4 0 0), (3, vint .i64 0), (5, .ptr 2 4 0 0), (6, .pv (.sl 1 ((setsX x).map seatsRow))), (21, vint .i64 a), (22, vint .i64 c), (23, .ptr 4 4 0 0), (24, vint .i64 (setsX x).length)]) (H' := [some ⟨33, 8, false, .box (pvs x.cells)⟩, some ⟨51, 4, false, .box (pvs zeroM)⟩, some ⟨51, 4, false, .box [.pv (.sl 1 CR), .pv (.sl 4 (P0.map Pair.row)), slP 3 4 NR, vint .i64 7]⟩, obP 120 4 NR, some ⟨120, 4, false, .box [vint .i64 1, .pv (.sl 3 (L.map Load.row)), vint .i64 qr.seats, vint .i64 1099511627776]⟩])
              (Ghost.shut_sl (i := 4) (c := 1) (id := 5) rfl rfl rfl (by decide) fun H' hl h2 hH => back [0, 1, 2, 3, 4] rfl rfl (And.intro (hH 0 (by decide) (by decide)) (And.intro (hH 1 (by decide) (by decide)) (kept_bx ren_m2 (hH 2 (by decide) (by decide)) (kept_ob (hH 3 (by decide) (by decide)) (And.intro h2 trivial))))) (by repeat' (first | exact trivial | exact rfl | refine And.intro ?_ ?_))) ?_
            by_cases hL : 1 < L.length
            · repeat' (first | (refine fv_sl ?_) | (refine fh_ob ?_) | ((refine o_app rfl rfl rfl rfl rfl rfl rfl rfl rfl rfl rfl (by omega) (by omega) ?_)) | refine o1 ?_ | refine o2 ?_ | refine k1 ?_ | refine k2 ?_ | refine k3 ?_ | refine k8 ?_ | refine And.intro ?_ ?_ | (intro h; first | exact Bool.noConfusion h | exact nz _ h | exact nl h | (simp at h; done) | (simp at h; first | (exfalso; omega) | skip) | skip) | refine eqv_len_map ?_ | refine eqv_wrap (by omega) (by omega) ?_ | fail)
              refine ⟨c + 1, by omega, by omega, ?_⟩
              rw [hco hL, sl_app, ob_app]
              exact back [0, 1, 2, 6] rfl rfl (by repeat' (first | exact trivial | exact rfl | refine And.intro ?_ ?_)) (by repeat' (first | exact trivial | exact rfl | refine And.intro ?_ ?_))
            · repeat' (first | refine o1 ?_ | refine o2 ?_ | refine k1 ?_ | refine k2 ?_ | refine k3 ?_ | refine k6 ?_ | refine k8 ?_ | refine And.intro ?_ ?_ | (intro h; first | exact Bool.noConfusion h | exact nz _ h | exact nl h | (simp at h; done) | (simp at h; first | (exfalso; omega) | skip) | skip) | refine eqv_len_map ?_ | refine eqv_wrap (by omega) (by omega) ?_ | fail)
              refine ⟨c + 1, by omega, by omega, ?_⟩
              rw [hcn hL]
              exact back [0, 1, 2, 3] rfl rfl (by repeat' (first | exact trivial | exact rfl | refine kept_ob rfl ?_ | refine kept_bx ren_m2 rfl ?_ | refine And.intro ?_ ?_)) (by repeat' (first | exact trivial | exact rfl | refine And.intro ?_ ?_))
        · obtain rfl : c = x.rooms.length := by omega
          repeat' (first | (refine fh_ob ?_) | refine o1 ?_ | refine o2 ?_ | refine k1 ?_ | refine k2 ?_ | refine k3 ?_ | refine k8 ?_ | refine And.intro ?_ ?_ | (intro h; first | exact Bool.noConfusion h | exact nz _ h | exact nl h | (simp at h; done) | (simp at h; first | (exfalso; omega) | skip) | skip) | refine eqv_len_map ?_ | refine eqv_wrap (by omega) (by omega) ?_ | fail)
          refine ⟨a + 1, by omega, by omega, ?_⟩
          rw [show cntS (setsX x) (wtX x) (mostX x) x.rooms.length (a + 1) = cntS (setsX x) (wtX x) (mostX x) x.rooms.length a ++ cntI (setsX x) (wtX x) (mostX x) a x.rooms.length from gr_succ]
          exact back [0, 1, 2, 3] rfl rfl (by repeat' (first | exact trivial | exact rfl | refine kept_ob rfl ?_ | refine kept_bx ren_m2 rfl ?_ | refine And.intro ?_ ?_)) (by repeat' (first | exact trivial | exact rfl | refine And.intro ?_ ?_))
      · obtain rfl : a = x.sits.length := by omega
        have hnl : (cntS (setsX x) (wtX x) (mostX x) x.rooms.length x.sits.length).length ≤ 800 := by omega
        generalize cntS (setsX x) (wtX x) (mostX x) x.rooms.length x.sits.length = N0 at *
        refine forceH_in ?_
        refine ghost_seq (Γ' := [(1, .ptr 0 8 0 0), (2, .ptr 1 4 0 0), (3, vint .i64 0), (5, .ptr 2 4 0 0), (6, .pv (.sl 1 ((setsX x).map seatsRow))), (21, vint .i64 x.sits.length)]) (H' := [some ⟨33, 8, false, .box (pvs x.cells)⟩, some ⟨51, 4, false, .box (pvs zeroM)⟩, some ⟨51, 4, false, .box [.pv (.sl 1 CR), .pv (.sl 4 (P0.map Pair.row)), .pv (.sl 4 (N0.map Count.row)), vint .i64 7]⟩])
          (Ghost.shut_sl (i := 2) (c := 2) (id := 3) rfl rfl rfl (by decide) fun H' hl h2 hH => back [0, 1, 2] rfl rfl (And.intro (hH 0 (by decide) (by decide)) (And.intro (hH 1 (by decide) (by decide)) (And.intro h2 trivial))) (by repeat' (first | exact trivial | exact rfl | refine And.intro ?_ ?_))) ?_
        repeat' (first | refine o1 ?_ | refine o2 ?_ | refine k1 ?_ | refine k2 ?_ | refine k3 ?_ | refine k6 ?_ | refine k7 ?_ | refine k8 ?_ | refine And.intro ?_ ?_ | (intro h; first | exact Bool.noConfusion h | exact nz _ h | exact nl h | (simp at h; done) | (simp at h; first | (exfalso; omega) | skip) | skip) | refine eqv_len_map ?_ | fail)
        all_goals
          change retOk _ _ _ _; refine ret_pure rfl (by repeat' (first | exact True.intro | refine And.intro ?_ ?_)) ?_
          exact ⟨ALe.tup ⟨ALe.agg ⟨ALe.pv (PLe.sl hle), ALe.refl, ALe.refl, ALe.refl, trivial⟩, ALe.refl, trivial⟩⟩
theorem c_rbuild1 (x : Exams) (h : ¬ examsE x = 0) : PCall Tryz.prog 21 [ag x.cells] (fun a => Leq a (.tup [ag (buildM x).cells, vint .i64 (buildE x)])) := by
  have h1 := c_rexams x
  have e1 : buildE x = examsE x := by unfold buildE; rw [if_pos h]
  have e2 : buildM x = ⟨[], [], [], 0⟩ := by unfold buildM; rw [e1]; exact if_neg h
  rw [e1, e2]
  generalize examsE x = E at *
  refine acall_of tok mixed 254 rfl (fn := Tryz.f21) (c := Tryz.f21.body.getD .skip) (by kernel_rfl) (by kernel_rfl) (by kernel_rfl) rfl 0 rfl ?_
  repeat' (first | refine o1 ?_ | refine o2 ?_ | refine k1 ?_ | refine k2 ?_ | refine k3 ?_ | refine k7 ?_ | refine And.intro ?_ ?_ | (intro h; first | exact Bool.noConfusion h | exact nz _ h | exact nl h | (simp at h; done) | (simp at h; first | (exfalso; omega) | skip) | skip) | exact (by kernel_rfl : drawOk _ _ = true) | (change vcFun _ _ _ _ _; refine call_eq rfl (by repeat' (first | trivial | refine And.intro ?_ ?_ | (show 0 + _ ≤ List.length _; simp))) ALeL.refl (h1) rfl ?_) | fail)
  all_goals first
    | (exfalso; omega)
    | (change retOk _ _ _ _; refine ret_pure rfl (by repeat' (first | exact True.intro | refine And.intro ?_ ?_)) ?_
       exact ⟨ALe.tup ⟨ALe.agg le_zeroM, ALe.refl, trivial⟩⟩)
end Go.Proofs.YtpnghlibmpainaaGreat.Cw

/-
  Contracts: a model equals itself.
-/
namespace Go.Proofs.YtpnghlibmpainaaGreat.Cw
open Go.Cw Go.Proofs
set_option linter.unusedVariables false
set_option maxRecDepth 100000
set_option maxHeartbeats 8000000

structure SameOk (M : Model) : Prop where
  cls : M.classes.length ≤ 100000
  opt : ∀ l ∈ M.classes, l.length ≤ 100000
  chg : ∀ l ∈ M.classes, ∀ o ∈ l, o.charges.length ≤ 100000
  prs : M.pairs.length ≤ 100000
  tab : ∀ p ∈ M.pairs, p.table.length ≤ 100000
  cnt : M.counts.length ≤ 100000
  lds : ∀ c ∈ M.counts, c.loads.length ≤ 100000
end Go.Proofs.YtpnghlibmpainaaGreat.Cw

/-
  Contracts: prices, rules, options of models.
-/
namespace Go.Proofs.YtpnghlibmpainaaGreat.Cw
open Go.Cw Go.Proofs
set_option linter.unusedVariables false
set_option maxRecDepth 100000
set_option maxHeartbeats 800000

end Go.Proofs.YtpnghlibmpainaaGreat.Cw

/-
  Contracts: searching the lists of models; charges; sizes.
-/
namespace Go.Proofs.YtpnghlibmpainaaGreat.Cw
open Go.Cw Go.Proofs
set_option linter.unusedVariables false
set_option maxRecDepth 100000
set_option maxHeartbeats 800000

end Go.Proofs.YtpnghlibmpainaaGreat.Cw

/-
  Contracts: pairs of models.
-/
namespace Go.Proofs.YtpnghlibmpainaaGreat.Cw
open Go.Cw Go.Proofs
set_option linter.unusedVariables false
set_option maxRecDepth 100000
set_option maxHeartbeats 800000

end Go.Proofs.YtpnghlibmpainaaGreat.Cw

/-
  Contracts: counts of models.
-/
namespace Go.Proofs.YtpnghlibmpainaaGreat.Cw
open Go.Cw Go.Proofs
set_option linter.unusedVariables false
set_option maxRecDepth 100000
set_option maxHeartbeats 800000

def loadLt (y x : Load) : Prop := y.cls < x.cls ∨ (y.cls = x.cls ∧ y.opt < x.opt)
end Go.Proofs.YtpnghlibmpainaaGreat.Cw

/-
  Contracts: valid models.
-/
namespace Go.Proofs.YtpnghlibmpainaaGreat.Cw
open Go.Cw Go.Proofs
set_option linter.unusedVariables false
set_option maxRecDepth 100000
set_option maxHeartbeats 1600000

end Go.Proofs.YtpnghlibmpainaaGreat.Cw

/-
  Contracts: dice.
-/
namespace Go.Proofs.YtpnghlibmpainaaGreat.Cw
open Go.Cw Go.Proofs
set_option linter.unusedVariables false
set_option maxRecDepth 100000

def modI (a m : Int) : Int := if m < 1 then 0 else a % m

theorem tmod_mod {a m : Int} (h : 1 ≤ m) : (if a.tmod m < 0 then a.tmod m + m else a.tmod m) = a % m := by
  rw [Int.tmod_eq_emod]
  have h1 := Int.emod_nonneg a (show m ≠ 0 by omega)
  have h2 := Int.emod_lt_of_pos a (show 0 < m by omega)
  split
  · simp only [Int.ofNat_zero, Int.sub_zero]; rw [if_neg (by omega)]
  · rename_i h3
    have : (m.natAbs : Int) = m := by omega
    rw [this, if_pos (by omega)]; omega

theorem c_mod (a m : Int) (hm : m ≤ 9223372036854775807) : PCall Tryz.prog 14 [vint .i64 a, vint .i64 m] (fun r => r = vint .i64 (modI a m)) := by
  refine acall_of tok mixed 16 rfl (fn := Tryz.f14) (c := Tryz.f14.body.getD .skip) (by kernel_rfl) (by kernel_rfl) (by kernel_rfl) rfl 0 rfl ?_
  repeat' (first | refine o1 ?_ | refine o2 ?_ | refine k1 ?_ | refine k2 ?_ | refine k3 ?_ | refine k6 ?_ | refine k7 ?_ | refine And.intro ?_ ?_ | (intro h; first | exact Bool.noConfusion h | exact nz _ h | exact nl h | (simp at h; done) | (simp at h; first | (exfalso; omega) | skip) | skip) | (change retOk _ _ _ _; refine ret_pure rfl trivial ?_) | fail)
  case' refine_2.refine_2 =>
    have ht := tmod_mod (a := a) (m := m) (by omega)
    have h1 := Int.emod_nonneg a (show m ≠ 0 by omega)
    have h2 := Int.emod_lt_of_pos a (show 0 < m by omega)
    refine eqv_rfl ?_
    generalize a.tmod m = q at *
    have hq : q < 0 → q + m = a % m := fun h => by rw [if_pos h] at ht; exact ht
    repeat' (first | refine o1 ?_ | refine o2 ?_ | refine k1 ?_ | refine k2 ?_ | refine k3 ?_ | refine k6 ?_ | refine k7 ?_ | refine And.intro ?_ ?_ | (intro h; first | exact Bool.noConfusion h | exact nz _ h | exact nl h | (simp at h; done) | (simp at h; first | (exfalso; omega) | skip) | skip) | (change retOk _ _ _ _; refine ret_pure rfl trivial ?_) | refine eqv_wrap (by omega) (by omega) ?_ | fail)
  all_goals first
    | (exfalso; omega)
    | (refine congrArg (vint .i64) ?_; unfold modI; rw [if_neg (by omega)]; exact hq (by assumption))
    | (refine congrArg (vint .i64) ?_; unfold modI; rw [if_neg (by omega), ← ht, if_neg (by omega)])
    | (refine congrArg (vint .i64) ?_; unfold modI; rw [if_pos (by omega)])

def dice (t : List Int) (k : Nat) : Option AObj := some ⟨92, 2, false, .box [.pv (encInts t), vint .i64 k]⟩
def nextV (t : List Int) (k : Nat) (n : Int) : Int := match t[k]? with
  | some x => modI x n
  | none => 0
def nextK (t : List Int) (k : Nat) : Nat := if k < t.length then k + 1 else k

theorem nextV_range (t : List Int) (k : Nat) {n : Int} (h : 1 ≤ n) : 0 ≤ nextV t k n ∧ nextV t k n < n := by
  unfold nextV
  split
  · unfold modI; rw [if_neg (by omega)]; exact ⟨Int.emod_nonneg _ (by omega), Int.emod_lt_of_pos _ (by omega)⟩
  · omega

theorem c_next (t : List Int) (k : Nat) (n : Int) (ht : t.length ≤ 400) (hk : k ≤ t.length) (hn : n ≤ 9223372036854775807) :
    ACall Tryz.prog 28 [.ptr 0 2 0 0, vint .i64 n] [dice t k] (fun r H' => r = vint .i64 (nextV t k n) ∧ H' = [dice t (nextK t k)]) := by
  refine acall_of tok mixed 35 rfl (fn := Tryz.f28) (c := Tryz.f28.body.getD .skip) (by kernel_rfl) (by kernel_rfl) (by kernel_rfl) rfl 1 rfl ?_
  repeat' (first | refine o1 ?_ | refine o2 ?_ | refine k1 ?_ | refine k2 ?_ | refine k3 ?_ | refine k6 ?_ | refine k7 ?_ | refine And.intro ?_ ?_ | refine o3 ?_ | refine o4 ?_ | (intro h; first | exact Bool.noConfusion h | exact nz _ h | exact nl h | (simp at h; done) | (simp at h; first | (exfalso; omega) | skip) | skip) | exact (by kernel_rfl : drawOk _ _ = true) | refine eqv_len_map ?_ | refine eqv_wrap (by omega) (by omega) ?_ | fail)
  case' refine_1 =>
    refine ret_obj [0] [dice t (nextK t k)] rfl rfl ⟨(by rw [nextK, if_neg (by omega)]; rfl), trivial⟩ (r' := vint .i64 0) rfl ⟨?_, rfl⟩
    simp [nextV, List.getElem?_eq_none h]
  case' refine_2 =>
    obtain ⟨x, hx⟩ := getE h
    repeat' (first | refine o3 ?_ | refine idx_sl (at_map (by assumption)) (by omega) ?_ | fail)
    change vcFunD _ _ _ _ _
    refine callD_eq rfl (by repeat' (first | trivial)) ALeL.refl (c_mod x n hn) rfl ?_
    repeat' (first | refine k7 ?_ | refine And.intro ?_ ?_ | refine o3 ?_ | refine o4 ?_ | exact (by kernel_rfl : drawOk _ _ = true) | fail)
    refine ret_obj [0] [dice t (nextK t k)] rfl rfl ⟨(by rw [nextK, if_pos h]; rfl), trivial⟩ (r' := vint .i64 (modI x n)) rfl ⟨?_, rfl⟩
    simp [nextV, hx]

theorem c_one (t : List Int) (k : Nat) (n : Int) (ht : t.length ≤ 400) (hk : k ≤ t.length) (hn : n ≤ 9223372036854775807) (hn1 : 1 ≤ n) :
    ACall Tryz.prog 36 [.ptr 0 2 0 0, vint .i64 n] [dice t k] (fun r H' => r = vbool (decide (nextV t k n = n - 1)) ∧ H' = [dice t (nextK t k)]) := by
  refine acall_of tok mixed 11 rfl (fn := Tryz.f36) (c := Tryz.f36.body.getD .skip) (by kernel_rfl) (by kernel_rfl) (by kernel_rfl) rfl 1 rfl ?_
  repeat' (first | refine o1 ?_ | refine o2 ?_ | refine k1 ?_ | refine k2 ?_ | fail)
  change vcFun _ _ _ _ _
  refine call_obj [0] [dice t k] [.ptr 0 2 0 0, vint .i64 n] rfl ⟨rfl, trivial⟩ rfl (c_next t k n ht hk hn) ?_
  rintro r H' ⟨rfl, rfl⟩
  repeat' (first | refine o1 ?_ | refine o2 ?_ | refine k7 ?_ | refine And.intro ?_ ?_ | exact Nat.le_of_ble_eq_true rfl | refine eqv_wrap (by omega) (by omega) ?_ | fail)
  refine ret_obj [0] [dice t (nextK t k)] rfl rfl ⟨rfl, trivial⟩ (r' := vbool (decide (nextV t k n = n - 1))) rfl ⟨rfl, rfl⟩

def Nxt (t : List Int) (k : Nat) (n v : Int) (k2 : Nat) : Prop := ACall Tryz.prog 28 [.ptr 0 2 0 0, vint .i64 n] [dice t k] (fun r H' => r = vint .i64 v ∧ H' = [dice t k2])
theorem nextK_le {t : List Int} {k : Nat} (h : k ≤ t.length) : nextK t k ≤ t.length := by unfold nextK; split <;> omega

theorem next_ex (t : List Int) (k : Nat) (n : Int) (ht : t.length ≤ 400) (hk : k ≤ t.length) (hn : n ≤ 9223372036854775807) (h1 : 1 ≤ n) :
    ∃ v k2, 0 ≤ v ∧ v < n ∧ k2 ≤ t.length ∧ Nxt t k n v k2 :=
  ⟨_, _, (nextV_range t k h1).1, (nextV_range t k h1).2, nextK_le hk, c_next t k n ht hk hn⟩

def One (t : List Int) (k : Nat) (n : Int) (b : Bool) (k2 : Nat) : Prop := ACall Tryz.prog 36 [.ptr 0 2 0 0, vint .i64 n] [dice t k] (fun r H' => r = vbool b ∧ H' = [dice t k2])
theorem one_ex (t : List Int) (k : Nat) (n : Int) (ht : t.length ≤ 400) (hk : k ≤ t.length) (hn : n ≤ 9223372036854775807) (h1 : 1 ≤ n) :
    ∃ b k2, k2 ≤ t.length ∧ One t k n b k2 :=
  ⟨_, _, nextK_le hk, c_one t k n ht hk hn h1⟩
theorem c_roll (t : List Int) : ACall Tryz.prog 11 [.pv (encInts t)] [] (fun r H' => r = .ptr 0 2 0 0 ∧ H' = [dice t 0]) := by
  refine acall_of tok mixed 6 rfl (fn := Tryz.f11) (c := Tryz.f11.body.getD .skip) (by kernel_rfl) (by kernel_rfl) (by kernel_rfl) rfl 0 rfl ?_
  repeat' (first | refine o1 ?_ | refine o2 ?_ | refine k1 ?_ | refine k2 ?_ | refine k7 ?_ | fail)
  refine ret_obj [0] [dice t 0] rfl rfl ⟨rfl, trivial⟩ (r' := .ptr 0 2 0 0) rfl ⟨rfl, rfl⟩

theorem c_light (t : List Int) : PCall Tryz.prog 8 [.pv (encInts t)] (fun r => r = vbool (decide (t.length ≤ 400))) := by
  refine acall_of tok mixed 6 rfl (fn := Tryz.f8) (c := Tryz.f8.body.getD .skip) (by kernel_rfl) (by kernel_rfl) (by kernel_rfl) rfl 0 rfl ?_
  repeat' (first | refine o1 ?_ | refine o2 ?_ | refine k1 ?_ | refine k2 ?_ | refine k7 ?_ | (change retOk _ _ _ _; refine ret_pure rfl trivial ?_) | refine eqv_len_map ?_ | fail)
  refine congrArg vbool ?_
  simp; omega

end Go.Proofs.YtpnghlibmpainaaGreat.Cw

/-
  Dice: calls in walks.
-/
namespace Go.Proofs.YtpnghlibmpainaaGreat.Cw
open Go.Cw Go.Proofs
set_option linter.unusedVariables false
set_option maxRecDepth 100000

section
variable {t : List Int} {k : Nat} {n : Int} {H : Heap} (i : Nat)
theorem call_next {K : AV → Heap → Prop} (hi : H[i]? = some (dice t k)) (ht : t.length ≤ 400) (hk : k ≤ t.length) (h1 : 1 ≤ n) (hn : n ≤ 9223372036854775807)
    (hK : ∀ v k2, 0 ≤ v → v < n → k2 ≤ t.length → K (vint .i64 v) (H.set i (dice t k2))) : vcFun Tryz.prog 28 [.ptr i 2 0 0, vint .i64 n] H K := by
  obtain ⟨v, k2, a, b, c, hn⟩ := next_ex t k n ht hk hn h1
  refine call_one (i := i) hi (fun _ _ => rfl) [.ptr 0 2 0 0, vint .i64 n] rfl hn ?_
  rintro r H' ⟨rfl, rfl⟩
  exact ⟨_, rfl, fun _ _ => rfl, fun _ _ => rfl, hK v k2 a b c⟩
theorem call_one2 {K : AV → Heap → Prop} (hi : H[i]? = some (dice t k)) (ht : t.length ≤ 400) (hk : k ≤ t.length) (h1 : 1 ≤ n) (hn : n ≤ 9223372036854775807)
    (hK : ∀ b k2, k2 ≤ t.length → K (vbool b) (H.set i (dice t k2))) : vcFun Tryz.prog 36 [.ptr i 2 0 0, vint .i64 n] H K := by
  obtain ⟨v, k2, c, hn⟩ := one_ex t k n ht hk hn h1
  refine call_one (i := i) hi (fun _ _ => rfl) [.ptr 0 2 0 0, vint .i64 n] rfl hn ?_
  rintro r H' ⟨rfl, rfl⟩
  exact ⟨_, rfl, fun _ _ => rfl, fun _ _ => rfl, hK v k2 c⟩
theorem callD_next {K : AV → Upd → List Nat → Prop} (hi : H[i]? = some (dice t k)) (ht : t.length ≤ 400) (hk : k ≤ t.length) (h1 : 1 ≤ n) (hn : n ≤ 9223372036854775807)
    (hK : ∀ v k2, 0 ≤ v → v < n → k2 ≤ t.length → K (vint .i64 v) [(i, dice t k2)] [i]) : vcFunD Tryz.prog 28 [.ptr i 2 0 0, vint .i64 n] H K := by
  obtain ⟨v, k2, a, b, c, hn⟩ := next_ex t k n ht hk hn h1
  exact callD_one (i := i) hi (fun _ _ => rfl) [.ptr 0 2 0 0, vint .i64 n] rfl hn (fun _ _ => rfl) (fun _ _ => rfl) (hK v k2 a b c)
theorem callD_one2 {K : AV → Upd → List Nat → Prop} (hi : H[i]? = some (dice t k)) (ht : t.length ≤ 400) (hk : k ≤ t.length) (h1 : 1 ≤ n) (hn : n ≤ 9223372036854775807)
    (hK : ∀ b k2, k2 ≤ t.length → K (vbool b) [(i, dice t k2)] [i]) : vcFunD Tryz.prog 36 [.ptr i 2 0 0, vint .i64 n] H K := by
  obtain ⟨v, k2, c, hn⟩ := one_ex t k n ht hk hn h1
  exact callD_one (i := i) hi (fun _ _ => rfl) [.ptr 0 2 0 0, vint .i64 n] rfl hn (fun _ _ => rfl) (fun _ _ => rfl) (hK v k2 c)
end

theorem bytes_one {v : Int} {n m : Nat} {K : Str → Prop} (h1 : 0 ≤ v) (h2 : v < 256) (hn : n = m) (h : ∀ s, s.size = 1 → K s) : ∃ b, List.take 1 (List.drop 0 [[PV.val (.int .u8 v)]]) = bytesRows b ∧ n = m ∧ K b := by
  refine ⟨⟨#[v.toNat.toUInt8]⟩, ?_, hn, h _ rfl⟩
  have : ((v.toNat.toUInt8.toNat : Nat) : Int) = v := by
    have : v.toNat.toUInt8.toNat = v.toNat := by simp [Nat.toUInt8]; omega
    omega
  show [[PV.val (.int .u8 v)]] = [[.val (.int .u8 ((v.toNat.toUInt8.toNat : Nat) : Int))]]
  rw [this]
end Go.Proofs.YtpnghlibmpainaaGreat.Cw

/-
  Odd times, odd rooms, odd examinations.
-/
namespace Go.Proofs.YtpnghlibmpainaaGreat.Cw
open Go.Cw Go.Proofs
set_option linter.unusedVariables false
set_option maxRecDepth 100000
set_option maxHeartbeats 1600000

/-- An index by a number of dice into a list that is written out. -/
theorem lit_idx {v : Int} {n : Nat} {K : Nat → Prop} (h1 : 0 ≤ v) (h2 : v < n) (h : ∀ k, k < n → K (0 + k)) : ∃ k : Nat, v = ↑k ∧ k < n ∧ eqv (0 + k) K :=
  ⟨v.toNat, by omega, by omega, _, rfl, h _ (by omega)⟩
def intRows : List (List PV) → Bool
  | [] => true
  | [.val (.int .i64 _)] :: l => intRows l
  | _ => false
theorem lit_ex : ∀ {L : List (List PV)} {k : Nat}, intRows L = true → k < L.length → ∃ x, L[k]? = some [ei x]
  | [], k, _, h => by simp at h
  | r :: l, 0, h, _ => by
    unfold intRows at h
    split at h
    · rename_i heq; cases heq
    · rename_i heq; cases heq; exact ⟨_, rfl⟩
    · cases h
  | r :: l, k + 1, h, hk => by
    unfold intRows at h
    split at h
    · rename_i heq; cases heq
    · rename_i heq; cases heq
      obtain ⟨x, hx⟩ := lit_ex (L := l) (k := k) h (by simpa using hk)
      exact ⟨x, by simpa using hx⟩
    · cases h
theorem lit_load {L : List (List PV)} {k n : Nat} {C : List PV → Prop} (hn : n = L.length) (hk : k < n) (hL : intRows L = true) (h : ∀ x : Int, C [ei x]) : ∃ r, L[0 + k]? = some r ∧ C r := by
  obtain ⟨x, hx⟩ := lit_ex hL (by omega : k < L.length)
  exact ⟨_, by rw [Nat.zero_add]; exact hx, h x⟩

/-- A pure result, as_ it is, and objects. -/
theorem ret_same {k : Nat} {r : AV} {H : Heap} {Post : AV → Heap → Prop} (rn : List Nat) (H' : Heap) (hd : allD rn = true) (ht : rn.take k = tabl 0 k) (hk : kept H H.length rn rn H') (hr : renC H.length rn r = r) (h : Post r H') : retOk k r H Post :=
  ret_obj rn H' hd ht hk hr.symm h

theorem c_oddtime (t : List Int) (k : Nat) (ht : t.length ≤ 400) (hk : k ≤ t.length) (x : Time) :
    ACall Tryz.prog 121 [.ptr 0 2 0 0, ag x.row] [dice t k] (fun r H' => ∃ (y : Time) (k' : Nat), k' ≤ t.length ∧ r = ag y.row ∧ H' = [dice t k']) := by
  refine acall_of tok mixed 38 rfl (fn := Tryz.f121) (c := Tryz.f121.body.getD .skip) (by kernel_rfl) (by kernel_rfl) (by kernel_rfl) rfl 1 rfl ?_
  repeat' (first | (refine lit_idx (by assumption) (by assumption) (fun kx hkx => ?_)) | (refine lit_load rfl (by assumption) rfl (fun y => ?_)) | refine o1 ?_ | refine o2 ?_ | refine k1 ?_ | refine k2 ?_ | refine k3 ?_ | refine k4 ?_ | refine k6 ?_ | refine k7 ?_ | refine k8 ?_ | refine And.intro ?_ ?_ | exact trivial | refine o3 ?_ | refine o4 ?_ | refine o5 ?_ | refine o6 ?_ | refine k5 ?_ | (intro h; first | exact Bool.noConfusion h | exact nz _ h | exact nl h | (simp at h; done) | (simp at h; first | (exfalso; omega) | skip) | skip) | (change retOk _ _ _ _; refine ret_pure rfl trivial ?_) | exact (rfl : allOne _ = true) | (refine (?_ : (0 : Int) ≤ _); omega) | (refine (?_ : _ ≠ _); omega) | (refine (?_ : srcLen _ = rowsLen _); rfl) | exact Nat.le_of_ble_eq_true rfl | exact (by kernel_rfl : drawOk _ _ = true) | refine eqv_len_map ?_ | refine eqv_size ?_ | refine eqv_put (eqv_ck ?_) | refine eqv_zero ?_ | refine eqv_wrap (by omega) (by omega) ?_ | refine eqv_u64 (by omega) (by omega) ?_ | refine eqv_u8 (by omega) (by omega) ?_ | refine eqv_to _ (set_map rfl rfl) ?_ | refine ⟨_, _, (by first | rfl | assumption), at_map (by assumption), ?_⟩ | refine ⟨_, _, (by first | rfl | assumption), (by assumption), ?_⟩ | refine ⟨_, at_map (by assumption), (by decide), ?_⟩ | refine ⟨_, at_map (by assumption), ?_⟩ | (refine (?_ : _ ≤ 140737488355328); simp [rowsLen] <;> omega) | (refine (?_ : _ ≤ 9223372036854775807); simp [rowsLen] <;> omega) | (refine (?_ : _ = rowsLen _); simp [rowsLen] <;> omega) | refine eqv_to _ (app_row rfl) (eqv_to _ app_len ?_) | refine eqv_to _ (app_first rfl) (eqv_to 1 rfl ?_) | refine idx_sl (at_map (by assumption)) (by omega) ?_ | refine idx_ms _ (by first | rfl | assumption) (by first | assumption | omega) ?_ | (change vcFun _ _ _ _ _; refine call_next 0 rfl (by assumption) (by assumption) (by omega) (by omega) ?_; intro v kq hv1 hv2 hkq) | (change vcFun _ _ _ _ _; refine call_one2 0 rfl (by assumption) (by assumption) (by omega) (by omega) ?_; intro bq kq hkq) | (change vcFunD _ _ _ _ _; refine callD_next 0 rfl (by assumption) (by assumption) (by omega) (by omega) ?_; intro v kq hv1 hv2 hkq) | (change vcFunD _ _ _ _ _; refine callD_one2 0 rfl (by assumption) (by assumption) (by omega) (by omega) ?_; intro bq kq hkq) | fail)
  all_goals first
    | exact ret_same [0] [dice t kq] rfl rfl ⟨rfl, trivial⟩ rfl ⟨⟨y, x.day, x.start, x.len⟩, kq, hkq, rfl, rfl⟩
    | exact ret_same [0] [dice t kq] rfl rfl ⟨rfl, trivial⟩ rfl ⟨⟨x.weeks, y, x.start, x.len⟩, kq, hkq, rfl, rfl⟩
    | exact ret_same [0] [dice t kq] rfl rfl ⟨rfl, trivial⟩ rfl ⟨⟨x.weeks, x.day, y, x.len⟩, kq, hkq, rfl, rfl⟩
    | exact ret_same [0] [dice t kq] rfl rfl ⟨rfl, trivial⟩ rfl ⟨⟨x.weeks, x.day, x.start, y⟩, kq, hkq, rfl, rfl⟩
end Go.Proofs.YtpnghlibmpainaaGreat.Cw

/-
  Made examinations.
-/
namespace Go.Proofs.YtpnghlibmpainaaGreat.Cw
open Go.Cw Go.Proofs
set_option linter.unusedVariables false
set_option maxRecDepth 100000
set_option maxHeartbeats 1600000

def z0 : AV := vint .i64 0
def rm0 (r : List PV) : Prop := ∃ c b s, r = [es c, es b, ei s, .val (.slice none 0 0), .val (.slice none 0 0)]
def zeroX : Option AObj := some ⟨33, 8, false, .box [nilA, nilA, nilA, z0, z0, z0, z0, z0]⟩

def roomR (r : List PV) : Prop := ∃ x : Room, PLeL r x.row
theorem rm0.room {r : List PV} (h : rm0 r) : roomR r := by
  obtain ⟨c, b, s, rfl⟩ := h
  exact ⟨⟨c, b, s, [], []⟩, PLe.refl, PLe.refl, PLe.refl, PLe.nil, PLe.nil, trivial⟩
theorem rooms_ex : ∀ {rs : List (List PV)}, (∀ r ∈ rs, roomR r) → ∃ l : List Room, PLeLL rs (l.map Room.row) ∧ l.length = rs.length
  | [], _ => ⟨[], trivial, rfl⟩
  | r :: rs, h => by
    obtain ⟨x, hx⟩ := h r (by simp)
    obtain ⟨l, hl, hn⟩ := rooms_ex (rs := rs) fun q hq => h q (by simp [hq])
    exact ⟨x :: l, ⟨hx, hl⟩, by simp [hn]⟩
theorem rooms_le {r : List PV} {rs : List (List PV)} (h : roomR r) (hs : ∀ q ∈ rs, rm0 q) : ∃ l : List Room, l.length = rs.length + 1 ∧ ALe (.pv (.sl 5 (List.take (rs.length + 1) (List.drop 0 (r :: rs))))) (.pv (encRooms l)) := by
  obtain ⟨l, hl, hn⟩ := rooms_ex (rs := r :: rs) fun q hq => by
    rcases List.mem_cons.1 hq with rfl | hq
    · exact h
    · exact (hs q hq).room
  refine ⟨l, hn, ALe.pv (PLe.sl ?_)⟩
  rw [List.drop_zero, List.take_of_length_le (by simp)]
  exact hl

def sitR (r : List PV) : Prop := ∃ x : Sitting, r = x.row
theorem sits_ex : ∀ {rs : List (List PV)}, (∀ r ∈ rs, sitR r) → ∃ l : List Sitting, rs = l.map Sitting.row
  | [], _ => ⟨[], rfl⟩
  | r :: rs, h => by
    obtain ⟨x, hx⟩ := h r (by simp)
    obtain ⟨l, hl⟩ := sits_ex (rs := rs) fun q hq => h q (by simp [hq])
    exact ⟨x :: l, by rw [hx, hl]; rfl⟩
theorem mem_app {α : Type} {l : List α} {q x : α} (h : q ∈ l ++ [x]) : q ∈ l ∨ q = x := by simpa using h
theorem c_made (t : List Int) (k : Nat) (ht : t.length ≤ 400) (hk : k ≤ t.length) :
    ACall Tryz.prog 24 [.ptr 0 2 0 0] [dice t k] (fun r H' => ∃ (x : Exams) (k' : Nat), k' ≤ t.length ∧ (x.rooms.length ≤ 5 ∧ x.exams.length ≤ 5 ∧ x.sits.length ≤ 5) ∧ r = ag x.cells ∧ H' = [dice t k']) := by
  refine acall_of tok mixed 160 rfl (fn := Tryz.f24) (c := Tryz.f24.body.getD .skip) (by kernel_rfl) (by kernel_rfl) (by kernel_rfl) rfl 1 rfl ?_
  repeat' (first | refine o1 ?_ | refine o2 ?_ | refine k1 ?_ | refine k2 ?_ | refine k4 ?_ | refine And.intro ?_ ?_ | exact (by kernel_rfl : drawOk _ _ = true) | refine eqv_wrap (by omega) (by omega) ?_ | (change vcFun _ _ _ _ _; refine call_next 0 rfl (by assumption) (by assumption) (by omega) (by omega) ?_; intro v kq hv1 hv2 hkq) | fail)
  refine loop_in (fun x : Nat × Nat × List (List PV) => [(4, vint .i64 x.1)]) (fun x => [dice t x.2.1, zeroX, some ⟨33, 8, false, .box [slP 3 5 x.2.2, nilA, nilA, z0, z0, z0, z0, z0]⟩, obP 72 5 x.2.2])
    (fun x => (x.1 + x.2.2.length ≤ 5 ∧ 1 ≤ x.1 + x.2.2.length) ∧ x.2.1 ≤ t.length ∧ ∀ r ∈ x.2.2, rm0 r) (fun x => x.1) ((1 + v).toNat, kq, []) ⟨by simp; omega, hkq, by simp⟩ ⟨?_, ?_⟩
  · exact back [0, 1, 2, 3] rfl rfl ⟨rfl, rfl, rfl, trivial⟩ ⟨slot_eq rfl (congrArg (vint .i64) (by show _ = (((1 + v).toNat : Nat) : Int); omega)), by repeat' (first | exact trivial | exact rfl | refine And.intro ?_ ?_)⟩
  rintro ⟨n, k, rs⟩ ⟨c1, c2, c3⟩
  rcases rs with _ | ⟨r, rs⟩
  · dsimp only [slP, obP, zeroX, nilA, z0, List.length_cons, List.length_nil] at c1 c2 c3 ⊢
    repeat' (first | (refine bytes_one (by omega) (by omega) rfl (fun s hs => ?_)) | ((show Nat.le (ByteArray.size _ + ByteArray.size _) _; rw [hs]; exact Nat.le_of_ble_eq_true rfl)) | refine o1 ?_ | refine o2 ?_ | refine k1 ?_ | refine k2 ?_ | refine k3 ?_ | refine k4 ?_ | refine k6 ?_ | refine And.intro ?_ ?_ | refine o3 ?_ | refine o4 ?_ | (intro h; first | exact Bool.noConfusion h | exact nz _ h | exact nl h | (simp at h; done) | (simp at h; first | (exfalso; omega) | skip) | skip) | (refine (?_ : srcLen _ = rowsLen _); rfl) | exact Nat.le_of_ble_eq_true rfl | exact (by kernel_rfl : drawOk _ _ = true) | refine eqv_wrap (by omega) (by omega) ?_ | refine eqv_u8 (by omega) (by omega) ?_ | refine eqv_to _ (app_first rfl) (eqv_to 1 rfl ?_) | (change vcFunD _ _ _ _ _; refine callD_next 0 rfl (by assumption) (by assumption) (by omega) (by omega) ?_; intro v kq hv1 hv2 hkq) | fail)
    all_goals first
      | (exfalso; omega)
      | exact ⟨(n - 1, kq, [_]), ⟨⟨by show n - 1 + 1 ≤ 5; omega, by show 1 ≤ n - 1 + 1; omega⟩, hkq, fun r hr => by rw [List.mem_singleton] at hr; subst hr; exact ⟨_, _, _, rfl⟩⟩, (by show n - 1 < n; omega), back [0, 1, 2, 6] rfl rfl ⟨rfl, rfl, rfl, rfl, trivial⟩ ⟨slot_eq rfl (congrArg (vint .i64) (by show _ = ((n - 1 : Nat) : Int); omega)), by repeat' (first | exact trivial | exact rfl | refine And.intro ?_ ?_)⟩⟩
  · dsimp only [slP, obP, zeroX, nilA, z0, List.length_cons, List.length_nil] at c1 c2 c3 ⊢
    rcases Nat.eq_zero_or_pos n with rfl | hn
    · obtain ⟨c, b, s, rfl⟩ := c3 r (by simp)
      repeat' (first | (refine join_in (a := .seq (.region 6 _ _) _) (fun _ => []) (fun x : Nat × List PV × List (List PV) => [dice t x.1, zeroX, some ⟨33, 8, false, .box [.ms 3 5 0 (x.2.2.length + 1), nilA, nilA, z0, z0, z0, z0, z0]⟩, some ⟨72, 5, false, .p (x.2.1 :: x.2.2)⟩]) (fun x => x.1 ≤ t.length ∧ (∃ c b s cl ts, x.2.1 = [es c, es b, ei s, .val (.slice none 0 0), cl] ∧ PLe cl (encTimes ts)) ∧ (∀ r ∈ x.2.2, rm0 r) ∧ x.2.2.length ≤ 4) ?_) | (refine ⟨0, rfl, Nat.succ_pos _, eqv_to 0 rfl ?_⟩) | (refine ⟨_, rfl, Nat.le_of_ble_eq_true rfl, eqv_rfl ?_⟩) | refine o1 ?_ | refine o2 ?_ | refine k1 ?_ | refine k2 ?_ | refine k3 ?_ | refine k6 ?_ | refine k8 ?_ | refine And.intro ?_ ?_ | refine o3 ?_ | refine o4 ?_ | (intro h; first | exact Bool.noConfusion h | exact nz _ h | exact nl h | (simp at h; done) | (simp at h; first | (exfalso; omega) | skip) | skip) | exact (by kernel_rfl : drawOk _ _ = true) | refine eqv_wrap (by omega) (by omega) ?_ | (change vcFun _ _ _ _ _; refine call_one2 0 rfl (by assumption) (by assumption) (by omega) (by omega) ?_; intro bq kq hkq) | (change vcFunD _ _ _ _ _; refine callD_next 0 rfl (by assumption) (by assumption) (by omega) (by omega) ?_; intro v kq hv1 hv2 hkq) | fail)
      all_goals first
        | exact ⟨(kq, [es c, es _, ei s, .val (.slice none 0 0), .val (.slice none 0 0)], rs), ⟨hkq, ⟨_, _, _, _, [], rfl, PLe.nil⟩, (fun r hr => c3 r (List.mem_cons_of_mem _ hr)), (by show rs.length ≤ 4; omega)⟩, back [0, 1, 2, 3] rfl rfl ⟨rfl, rfl, rfl, rfl, trivial⟩ (by repeat' (first | exact trivial | exact rfl | refine And.intro ?_ ?_))⟩
        | skip
      · rename_i w1 q1 a1 a2 a3 w2 q2 b1 b2 b3
        refine ⟨(kq, [es c, es b, ei s, .val (.slice none 0 0), .sl 4 [[ei (1 + w1), ei w2, ei v, ei 1]]], rs), ⟨hkq, ⟨_, _, _, _, [⟨1 + w1, w2, v, 1⟩], rfl, PLe.refl⟩, (fun r hr => c3 r (List.mem_cons_of_mem _ hr)), (by show rs.length ≤ 4; omega)⟩, Ghost.trans (Ghost.shut0 (i := 3) (c := 4) (r := [es c, es b, ei s, .val (.slice none 0 0), .val (.slice none 0 0)]) (xs := rs) (x := .ms 4 4 0 1) rfl rfl (Nat.le_of_ble_eq_true rfl) rfl (by repeat' (first | (show 0 + _ ≤ List.length _; simp))) ?_ ALe.refl) (back [0, 1, 2, 3] rfl rfl ⟨rfl, rfl, rfl, rfl, trivial⟩ (by repeat' (first | exact trivial | exact rfl | refine And.intro ?_ ?_)))⟩
        · show ¬ (3 ∈ ([4] : List Nat))
          decide
      refine ⟨?_⟩
      rintro ⟨k, r, rs⟩ ⟨c2, ⟨c, bl, s, cl, ts, e, hcl⟩, c3, c3n⟩
      dsimp only at c2 c3 c3n e ⊢
      subst e
      have hs1 : ∀ w : List PV, roomR w → ∃ l : List Room, l.length = rs.length + 1 ∧ ALe (.pv (.sl 5 (List.take (rs.length + 1) (List.drop 0 (w :: rs))))) (.pv (encRooms l)) := fun w hw => rooms_le hw c3
      repeat' (first | (refine join_in (a := .seq (.region 8 _ _) _) (fun _ => []) (fun x : Nat × List Room => [dice t x.1, zeroX, some ⟨33, 8, false, .box [.pv (encRooms x.2), nilA, nilA, z0, z0, z0, z0, z0]⟩]) (fun x => x.1 ≤ t.length ∧ x.2.length ≤ 5) ?_) | (refine ⟨0, rfl, Nat.succ_pos _, eqv_to 0 rfl ?_⟩) | (refine ⟨_, rfl, Nat.le_of_ble_eq_true rfl, eqv_rfl ?_⟩) | refine o1 ?_ | refine o2 ?_ | refine k1 ?_ | refine k2 ?_ | refine k3 ?_ | refine k6 ?_ | refine And.intro ?_ ?_ | (intro h; first | exact Bool.noConfusion h | exact nz _ h | exact nl h | (simp at h; done) | (simp at h; first | (exfalso; omega) | skip) | skip) | (change vcFun _ _ _ _ _; refine call_one2 0 rfl (by assumption) (by assumption) (by omega) (by omega) ?_; intro bq kq hkq) | fail)
      · obtain ⟨l, hn, hl⟩ := hs1 [es c, es bl, ei s, .sl 1 [[es _]], cl] ⟨⟨c, bl, s, [_], ts⟩, PLe.refl, PLe.refl, PLe.refl, PLe.refl, hcl, trivial⟩
        refine ⟨(kq, l), ⟨hkq, (by show l.length ≤ 5; omega)⟩, Ghost.trans (Ghost.shut0 (i := 3) (c := 3) (r := [es c, es bl, ei s, .val (.slice none 0 0), cl]) (xs := rs) (x := .ms 4 1 0 1) rfl rfl (Nat.le_of_ble_eq_true rfl) rfl (by repeat' (first | (show 0 + _ ≤ List.length _; simp))) ?_ ALe.refl) (Ghost.trans (Ghost.shut (i := 2) (c := 0) (x := .ms 3 5 0 (rs.length + 1)) rfl rfl rfl (by repeat' (first | (show 0 + _ ≤ List.length _; simp))) ?_ hl) (back [0, 1, 2] rfl rfl ⟨rfl, rfl, rfl, trivial⟩ (by repeat' (first | exact trivial | exact rfl | refine And.intro ?_ ?_))))⟩
        · show ¬ (3 ∈ ([4] : List Nat))
          decide
        · show ¬ (2 ∈ ([3] : List Nat))
          decide
      · obtain ⟨l, hn, hl⟩ := hs1 [es c, es bl, ei s, .val (.slice none 0 0), cl] ⟨⟨c, bl, s, [], ts⟩, PLe.refl, PLe.refl, PLe.refl, PLe.nil, hcl, trivial⟩
        refine ⟨(kq, l), ⟨hkq, (by show l.length ≤ 5; omega)⟩, Ghost.trans (Ghost.shut (i := 2) (c := 0) (x := .ms 3 5 0 (rs.length + 1)) rfl rfl rfl (by repeat' (first | (show 0 + _ ≤ List.length _; simp))) ?_ hl) (back [0, 1, 2] rfl rfl ⟨rfl, rfl, rfl, trivial⟩ (by repeat' (first | exact trivial | exact rfl | refine And.intro ?_ ?_)))⟩
        show ¬ (2 ∈ ([3] : List Nat))
        decide
      refine ⟨?_⟩
      rintro ⟨k, rl⟩ ⟨c2, crl⟩
      dsimp only at c2 crl ⊢
      repeat' (first | (refine join_in (a := .seq (.region 10 _ _) _) (fun _ => []) (fun x : Nat × List Exam => [dice t x.1, zeroX, some ⟨33, 8, false, .box [.pv (encRooms rl), .pv (.sl 4 (x.2.map Exam.row)), nilA, z0, z0, z0, z0, z0]⟩]) (fun x => x.1 ≤ t.length ∧ x.2.length ≤ 5) ?_) | refine o1 ?_ | refine o2 ?_ | refine k1 ?_ | refine k2 ?_ | refine k4 ?_ | refine And.intro ?_ ?_ | (change vcFun _ _ _ _ _; refine call_next 0 rfl (by assumption) (by assumption) (by omega) (by omega) ?_; intro v kq hv1 hv2 hkq) | fail)
      · refine loop_in (fun x : Nat × Nat × List Exam => [(5, vint .i64 x.1)]) (fun x => [dice t x.2.1, zeroX, some ⟨33, 8, false, .box [.pv (encRooms rl), slP 3 4 (x.2.2.map Exam.row), nilA, z0, z0, z0, z0, z0]⟩, obP 69 4 (x.2.2.map Exam.row)])
          (fun x => x.1 + x.2.2.length ≤ 5 ∧ x.2.1 ≤ t.length) (fun x => x.1) (v.toNat, kq, []) ⟨by simp; omega, hkq⟩ ⟨?_, ?_⟩
        · exact back [0, 1, 2, 3] rfl rfl ⟨rfl, rfl, rfl, trivial⟩ ⟨slot_eq rfl (congrArg (vint .i64) (by show _ = ((v.toNat : Nat) : Int); omega)), by repeat' (first | exact trivial | exact rfl | refine And.intro ?_ ?_)⟩
        rintro ⟨n, k, l⟩ ⟨c1, c2⟩
        rcases l with _ | ⟨e0, l⟩
        · have hlm : (([]).map Exam.row).length = ([]).length := List.length_map ..
          dsimp only [slP, obP, zeroX, nilA, z0, List.length_cons, List.length_nil, List.map] at c1 c2 hlm ⊢
          rcases Nat.eq_zero_or_pos n with rfl | hn
          · repeat' (first | refine o1 ?_ | refine o2 ?_ | refine k1 ?_ | refine k2 ?_ | refine k3 ?_ | refine k8 ?_ | refine And.intro ?_ ?_ | (intro h; first | exact Bool.noConfusion h | exact nz _ h | exact nl h | (simp at h; done) | (simp at h; first | (exfalso; omega) | skip) | skip) | fail)
            first
              | exact ⟨(k, []), ⟨c2, Nat.zero_le _⟩, Ghost.trans (Ghost.shut (i := 2) (c := 1) (x := .pv (.val (.slice none 0 0))) rfl rfl rfl (by repeat' (first | trivial)) (show ¬ (2 ∈ ([] : List Nat)) by decide) (ALe.pv PLe.nil)) (back [0, 1, 2] rfl rfl ⟨rfl, rfl, rfl, trivial⟩ (by repeat' (first | exact trivial | exact rfl | refine And.intro ?_ ?_)))⟩
              | (refine ⟨(k, []), ⟨c2, (by show List.length _ ≤ 5; simp only [List.length_cons]; omega)⟩, Ghost.trans (Ghost.shut (i := 2) (c := 1) (x := .ms 3 4 0 ((List.map Exam.row l).length + 1)) rfl rfl rfl (by skip) (show ¬ (2 ∈ ([3] : List Nat)) by decide) (ALe.pv (PLe.sl (?_ : PLeLL _ (([]).map Exam.row))))) (back [0, 1, 2] rfl rfl ⟨rfl, rfl, rfl, trivial⟩ (by skip))⟩
                 rw [List.drop_zero, List.take_of_length_le (by simp)]
                 exact PLeLL.refl)
          · repeat' (first | (refine bytes_one (by omega) (by omega) rfl (fun s hs => ?_)) | ((show Nat.le (ByteArray.size _ + ByteArray.size _) _; rw [hs]; exact Nat.le_of_ble_eq_true rfl)) | refine o1 ?_ | refine o2 ?_ | refine k1 ?_ | refine k2 ?_ | refine k3 ?_ | refine k4 ?_ | refine k6 ?_ | refine And.intro ?_ ?_ | refine o3 ?_ | refine o4 ?_ | (intro h; first | exact Bool.noConfusion h | exact nz _ h | exact nl h | (simp at h; done) | (simp at h; first | (exfalso; omega) | skip) | skip) | exact (by kernel_rfl : drawOk _ _ = true) | refine eqv_wrap (by omega) (by omega) ?_ | refine eqv_u8 (by omega) (by omega) ?_ | (change vcFunD _ _ _ _ _; refine callD_next 0 rfl (by assumption) (by assumption) (by omega) (by omega) ?_; intro v kq hv1 hv2 hkq) | fail)
            all_goals first
              | (exfalso; omega)
              | skip
            refine loop_in (fun x : Nat × Nat × List Str => [(7, vint .i64 x.1)]) (fun x => [dice t x.2.1, zeroX, some ⟨33, 8, false, .box [.pv (encRooms rl), slP 3 4 (([]).map Exam.row), nilA, z0, z0, z0, z0, z0]⟩, obP 69 4 (([]).map Exam.row), none, some ⟨69, 4, false, .box [.pv (es (ByteArray.mk #[69] ++ s)), vint .i64 (1 + v), nilA, slP 6 1 (x.2.2.map fun w => [es w])]⟩, obP 9 1 (x.2.2.map fun w => [es w])])
              (fun x => (x.1 ≤ 4 ∧ x.2.2.length ≤ x.1) ∧ x.2.1 ≤ t.length) (fun x => 4 - x.1) (0, kq, []) ⟨⟨by simp, by simp⟩, hkq⟩ ⟨?_, ?_⟩
            · exact back [0, 1, 2, 3, 4, 5, 6] rfl rfl (by repeat' (first | exact trivial | exact rfl | refine And.intro ?_ ?_)) (by repeat' (first | exact trivial | exact rfl | refine And.intro ?_ ?_))
            rintro ⟨i, k, ss⟩ ⟨c3, c4⟩
            rcases ss with _ | ⟨w0, ss⟩
            · dsimp only [slP, obP, zeroX, nilA, z0, List.length_cons, List.length_nil, List.map] at c3 c4 ⊢
              rcases Nat.lt_or_ge i 4 with hi | hi
              · repeat' (first | (refine bytes_one (by omega) (by omega) rfl (fun sq hsq => ?_)) | ((show Nat.le (ByteArray.size _ + ByteArray.size _) _; rw [hsq]; exact Nat.le_of_ble_eq_true rfl)) | refine o1 ?_ | refine o2 ?_ | refine k1 ?_ | refine k2 ?_ | refine k3 ?_ | refine k4 ?_ | refine k6 ?_ | refine And.intro ?_ ?_ | (intro h; first | exact Bool.noConfusion h | exact nz _ h | exact nl h | (simp at h; done) | (simp at h; first | (exfalso; omega) | skip) | skip) | (refine (?_ : srcLen _ = rowsLen _); rfl) | exact Nat.le_of_ble_eq_true rfl | refine eqv_wrap (by omega) (by omega) ?_ | refine eqv_u8 (by omega) (by omega) ?_ | refine eqv_to _ (app_first rfl) (eqv_to 1 rfl ?_) | (change vcFun _ _ _ _ _; refine call_one2 0 rfl (by assumption) (by assumption) (by omega) (by omega) ?_; intro bq kq hkq) | fail)
                all_goals first
                  | (exfalso; omega)
                  | skip
                · exact ⟨(i + 1, kq, [ByteArray.mk #[115] ++ sq]), ⟨⟨by show i + 1 ≤ 4; omega, by show List.length _ ≤ i + 1; simp; try omega⟩, hkq⟩, (by show 4 - (i + 1) < 4 - i; omega), back [0, 1, 2, 3, 4, 5, 9] rfl rfl (by repeat' (first | exact trivial | exact rfl | refine And.intro ?_ ?_)) (by repeat' (first | exact trivial | exact rfl | refine And.intro ?_ ?_))⟩
                · exact ⟨(i + 1, kq, []), ⟨⟨by show i + 1 ≤ 4; omega, by show List.length _ ≤ i + 1; simp; try omega⟩, hkq⟩, (by show 4 - (i + 1) < 4 - i; omega), back [0, 1, 2, 3, 4, 5, 6] rfl rfl (by repeat' (first | exact trivial | exact rfl | refine And.intro ?_ ?_)) (by repeat' (first | exact trivial | exact rfl | refine And.intro ?_ ?_))⟩
              · repeat' (first | (refine join_in (a := .seq (.region 19 _ _) _) (fun _ => []) (fun x : Nat × List Str => [dice t x.1, zeroX, some ⟨33, 8, false, .box [.pv (encRooms rl), slP 3 4 (([]).map Exam.row), nilA, z0, z0, z0, z0, z0]⟩, obP 69 4 (([]).map Exam.row), none, some ⟨69, 4, false, .box [.pv (es (ByteArray.mk #[69] ++ s)), vint .i64 (1 + v), nilA, .pv (encStrs x.2)]⟩]) (fun x => x.1 ≤ t.length) ?_) | refine o1 ?_ | refine o2 ?_ | refine k1 ?_ | refine k2 ?_ | refine k3 ?_ | refine k8 ?_ | refine And.intro ?_ ?_ | (intro h; first | exact Bool.noConfusion h | exact nz _ h | exact nl h | (simp at h; done) | (simp at h; first | (exfalso; omega) | skip) | skip) | fail)
                all_goals first
                  | (exfalso; omega)
                  | skip
                · exact ⟨(k, [⟨#[115, 57]⟩]), c4, Ghost.trans (Ghost.shut (i := 5) (c := 3) (x := .ms 7 1 0 1) rfl rfl rfl (by repeat' (first | (show 0 + _ ≤ List.length _; simp))) (show ¬ (5 ∈ ([7] : List Nat)) by decide) ALe.refl) (back [0, 1, 2, 3, 4, 5] rfl rfl (by repeat' (first | exact trivial | exact rfl | refine And.intro ?_ ?_)) (by repeat' (first | exact trivial | exact rfl | refine And.intro ?_ ?_)))⟩
                refine ⟨?_⟩
                rintro ⟨k, us⟩ c5
                dsimp only [slP, obP, zeroX, nilA, z0, List.length_cons, List.length_nil, List.map] at c5 ⊢
                repeat' (first | (refine join_in (a := .seq (.region 21 _ _) _) (fun _ => []) (fun x : Nat × List Str => [dice t x.1, zeroX, some ⟨33, 8, false, .box [.pv (encRooms rl), slP 3 4 (([]).map Exam.row), nilA, z0, z0, z0, z0, z0]⟩, obP 69 4 (([]).map Exam.row), none, some ⟨69, 4, false, .box [.pv (es (ByteArray.mk #[69] ++ s)), vint .i64 (1 + v), .pv (encStrs x.2), .pv (encStrs us)]⟩]) (fun x => x.1 ≤ t.length) ?_) | refine o1 ?_ | refine o2 ?_ | refine k1 ?_ | refine k2 ?_ | refine k3 ?_ | refine k6 ?_ | refine And.intro ?_ ?_ | (intro h; first | exact Bool.noConfusion h | exact nz _ h | exact nl h | (simp at h; done) | (simp at h; first | (exfalso; omega) | skip) | skip) | (change vcFun _ _ _ _ _; refine call_one2 0 rfl (by assumption) (by assumption) (by omega) (by omega) ?_; intro bq kq hkq) | fail)
                · exact ⟨(kq, [⟨#[108, 97, 98]⟩]), hkq, Ghost.trans (Ghost.shut (i := 5) (c := 2) (x := .ms 6 1 0 1) rfl rfl rfl (by repeat' (first | (show 0 + _ ≤ List.length _; simp))) (show ¬ (5 ∈ ([6] : List Nat)) by decide) ALe.refl) (back [0, 1, 2, 3, 4, 5] rfl rfl (by repeat' (first | exact trivial | exact rfl | refine And.intro ?_ ?_)) (by repeat' (first | exact trivial | exact rfl | refine And.intro ?_ ?_)))⟩
                · exact ⟨(kq, []), hkq, Ghost.trans (Ghost.shut (i := 5) (c := 2) (x := .pv (.val (.slice none 0 0))) rfl rfl rfl (by repeat' (first | trivial)) (show ¬ (5 ∈ ([] : List Nat)) by decide) (ALe.pv PLe.nil)) (back [0, 1, 2, 3, 4, 5] rfl rfl (by repeat' (first | exact trivial | exact rfl | refine And.intro ?_ ?_)) (by repeat' (first | exact trivial | exact rfl | refine And.intro ?_ ?_)))⟩
                refine ⟨?_⟩
                rintro ⟨k, fs⟩ c6
                dsimp only [slP, obP, zeroX, nilA, z0, List.length_cons, List.length_nil, List.map] at c6 ⊢
                repeat' (first | refine o1 ?_ | refine o2 ?_ | refine k2 ?_ | refine And.intro ?_ ?_ | (intro h; first | exact Bool.noConfusion h | exact nz _ h | exact nl h | (simp at h; done) | (simp at h; first | (exfalso; omega) | skip) | skip) | (refine (?_ : srcLen _ = rowsLen _); rfl) | exact Nat.le_of_ble_eq_true rfl | refine eqv_wrap (by omega) (by omega) ?_ | refine eqv_to _ (app_first rfl) (eqv_to 1 rfl ?_) | fail)
                all_goals first
                  | (exfalso; omega)
                  | skip
                · exact ⟨(n - 1, k, [⟨ByteArray.mk #[69] ++ s, 1 + v, fs, us⟩]), ⟨by show n - 1 + List.length _ ≤ 5; simp; try omega, c6⟩, (by show n - 1 < n; omega), back [0, 1, 2, 7] rfl rfl (by repeat' (first | exact trivial | exact rfl | refine And.intro ?_ ?_)) ⟨slot_eq rfl (congrArg (vint .i64) (by show _ = ((n - 1 : Nat) : Int); omega)), by repeat' (first | exact trivial | exact rfl | refine And.intro ?_ ?_)⟩⟩
            · dsimp only [slP, obP, zeroX, nilA, z0, List.length_cons, List.length_nil, List.map] at c3 c4 ⊢
              rcases Nat.lt_or_ge i 4 with hi | hi
              · repeat' (first | (refine bytes_one (by omega) (by omega) rfl (fun sq hsq => ?_)) | ((show Nat.le (ByteArray.size _ + ByteArray.size _) _; rw [hsq]; exact Nat.le_of_ble_eq_true rfl)) | (refine app_consm (f := fun w => [es w]) (e0 := w0) (ByteArray.mk #[115] ++ sq) rfl ?_) | refine o1 ?_ | refine o2 ?_ | refine k1 ?_ | refine k2 ?_ | refine k3 ?_ | refine k4 ?_ | refine k6 ?_ | refine And.intro ?_ ?_ | (intro h; first | exact Bool.noConfusion h | exact nz _ h | exact nl h | (simp at h; done) | (simp at h; first | (exfalso; omega) | skip) | skip) | (refine (?_ : srcLen _ = rowsLen _); rfl) | refine eqv_wrap (by omega) (by omega) ?_ | refine eqv_u8 (by omega) (by omega) ?_ | (refine (?_ : _ ≤ 140737488355328); simp [rowsLen] <;> omega) | (refine (?_ : _ ≤ 9223372036854775807); simp [rowsLen] <;> omega) | (refine (?_ : _ = rowsLen _); simp [rowsLen] <;> omega) | (change vcFun _ _ _ _ _; refine call_one2 0 rfl (by assumption) (by assumption) (by omega) (by omega) ?_; intro bq kq hkq) | fail)
                all_goals first
                  | (exfalso; omega)
                  | skip
                · exact ⟨(i + 1, kq, w0 :: (ss ++ [ByteArray.mk #[115] ++ sq])), ⟨⟨by show i + 1 ≤ 4; omega, by show List.length _ ≤ i + 1; simp; try omega⟩, hkq⟩, (by show 4 - (i + 1) < 4 - i; omega), back [0, 1, 2, 3, 4, 5, 9] rfl rfl (by repeat' (first | exact trivial | exact rfl | refine And.intro ?_ ?_)) (by repeat' (first | exact trivial | exact rfl | refine And.intro ?_ ?_))⟩
                · exact ⟨(i + 1, kq, w0 :: ss), ⟨⟨by show i + 1 ≤ 4; omega, by show List.length _ ≤ i + 1; simp; try omega⟩, hkq⟩, (by show 4 - (i + 1) < 4 - i; omega), back [0, 1, 2, 3, 4, 5, 6] rfl rfl (by repeat' (first | exact trivial | exact rfl | refine And.intro ?_ ?_)) (by repeat' (first | exact trivial | exact rfl | refine And.intro ?_ ?_))⟩
              · repeat' (first | (refine join_in (a := .seq (.region 19 _ _) _) (fun _ => []) (fun x : Nat × List Str => [dice t x.1, zeroX, some ⟨33, 8, false, .box [.pv (encRooms rl), slP 3 4 (([]).map Exam.row), nilA, z0, z0, z0, z0, z0]⟩, obP 69 4 (([]).map Exam.row), none, some ⟨69, 4, false, .box [.pv (es (ByteArray.mk #[69] ++ s)), vint .i64 (1 + v), nilA, .pv (encStrs x.2)]⟩]) (fun x => x.1 ≤ t.length) ?_) | refine o1 ?_ | refine o2 ?_ | refine k1 ?_ | refine k2 ?_ | refine k3 ?_ | refine k6 ?_ | refine k8 ?_ | refine And.intro ?_ ?_ | (intro h; first | exact Bool.noConfusion h | exact nz _ h | exact nl h | (simp at h; done) | (simp at h; first | (exfalso; omega) | skip) | skip) | fail)
                all_goals first
                  | (exfalso; omega)
                  | skip
                · refine ⟨(k, w0 :: ss), c4, Ghost.trans (Ghost.shut (i := 5) (c := 3) (x := .ms 6 1 0 ((List.map (fun w => [es w]) ss).length + 1)) rfl rfl rfl (by repeat' (first | (show 0 + _ ≤ List.length _; simp))) (show ¬ (5 ∈ ([6] : List Nat)) by decide) (ALe.pv (PLe.sl (?_ : PLeLL _ ((w0 :: ss).map fun w => [es w]))))) (back [0, 1, 2, 3, 4, 5] rfl rfl (by repeat' (first | exact trivial | exact rfl | refine And.intro ?_ ?_)) (by repeat' (first | exact trivial | exact rfl | refine And.intro ?_ ?_)))⟩
                  rw [List.drop_zero, List.take_of_length_le (by simp)]
                  exact PLeLL.refl
                refine ⟨?_⟩
                rintro ⟨k, us⟩ c5
                dsimp only [slP, obP, zeroX, nilA, z0, List.length_cons, List.length_nil, List.map] at c5 ⊢
                repeat' (first | (refine join_in (a := .seq (.region 21 _ _) _) (fun _ => []) (fun x : Nat × List Str => [dice t x.1, zeroX, some ⟨33, 8, false, .box [.pv (encRooms rl), slP 3 4 (([]).map Exam.row), nilA, z0, z0, z0, z0, z0]⟩, obP 69 4 (([]).map Exam.row), none, some ⟨69, 4, false, .box [.pv (es (ByteArray.mk #[69] ++ s)), vint .i64 (1 + v), .pv (encStrs x.2), .pv (encStrs us)]⟩]) (fun x => x.1 ≤ t.length) ?_) | refine o1 ?_ | refine o2 ?_ | refine k1 ?_ | refine k2 ?_ | refine k3 ?_ | refine k6 ?_ | refine And.intro ?_ ?_ | (intro h; first | exact Bool.noConfusion h | exact nz _ h | exact nl h | (simp at h; done) | (simp at h; first | (exfalso; omega) | skip) | skip) | (change vcFun _ _ _ _ _; refine call_one2 0 rfl (by assumption) (by assumption) (by omega) (by omega) ?_; intro bq kq hkq) | fail)
                · exact ⟨(kq, [⟨#[108, 97, 98]⟩]), hkq, Ghost.trans (Ghost.shut (i := 5) (c := 2) (x := .ms 6 1 0 1) rfl rfl rfl (by repeat' (first | (show 0 + _ ≤ List.length _; simp))) (show ¬ (5 ∈ ([6] : List Nat)) by decide) ALe.refl) (back [0, 1, 2, 3, 4, 5] rfl rfl (by repeat' (first | exact trivial | exact rfl | refine And.intro ?_ ?_)) (by repeat' (first | exact trivial | exact rfl | refine And.intro ?_ ?_)))⟩
                · exact ⟨(kq, []), hkq, Ghost.trans (Ghost.shut (i := 5) (c := 2) (x := .pv (.val (.slice none 0 0))) rfl rfl rfl (by repeat' (first | trivial)) (show ¬ (5 ∈ ([] : List Nat)) by decide) (ALe.pv PLe.nil)) (back [0, 1, 2, 3, 4, 5] rfl rfl (by repeat' (first | exact trivial | exact rfl | refine And.intro ?_ ?_)) (by repeat' (first | exact trivial | exact rfl | refine And.intro ?_ ?_)))⟩
                refine ⟨?_⟩
                rintro ⟨k, fs⟩ c6
                dsimp only [slP, obP, zeroX, nilA, z0, List.length_cons, List.length_nil, List.map] at c6 ⊢
                repeat' (first | refine o1 ?_ | refine o2 ?_ | refine k2 ?_ | refine And.intro ?_ ?_ | (intro h; first | exact Bool.noConfusion h | exact nz _ h | exact nl h | (simp at h; done) | (simp at h; first | (exfalso; omega) | skip) | skip) | (refine (?_ : srcLen _ = rowsLen _); rfl) | exact Nat.le_of_ble_eq_true rfl | refine eqv_wrap (by omega) (by omega) ?_ | refine eqv_to _ (app_first rfl) (eqv_to 1 rfl ?_) | fail)
                all_goals first
                  | (exfalso; omega)
                  | skip
                · exact ⟨(n - 1, k, [⟨ByteArray.mk #[69] ++ s, 1 + v, fs, us⟩]), ⟨by show n - 1 + List.length _ ≤ 5; simp; try omega, c6⟩, (by show n - 1 < n; omega), back [0, 1, 2, 7] rfl rfl (by repeat' (first | exact trivial | exact rfl | refine And.intro ?_ ?_)) ⟨slot_eq rfl (congrArg (vint .i64) (by show _ = ((n - 1 : Nat) : Int); omega)), by repeat' (first | exact trivial | exact rfl | refine And.intro ?_ ?_)⟩⟩
        · have hlm : ((e0 :: l).map Exam.row).length = (e0 :: l).length := List.length_map ..
          dsimp only [slP, obP, zeroX, nilA, z0, List.length_cons, List.length_nil, List.map] at c1 c2 hlm ⊢
          rcases Nat.eq_zero_or_pos n with rfl | hn
          · repeat' (first | refine o1 ?_ | refine o2 ?_ | refine k1 ?_ | refine k2 ?_ | refine k3 ?_ | refine k8 ?_ | refine And.intro ?_ ?_ | (intro h; first | exact Bool.noConfusion h | exact nz _ h | exact nl h | (simp at h; done) | (simp at h; first | (exfalso; omega) | skip) | skip) | fail)
            first
              | exact ⟨(k, []), ⟨c2, Nat.zero_le _⟩, Ghost.trans (Ghost.shut (i := 2) (c := 1) (x := .pv (.val (.slice none 0 0))) rfl rfl rfl (by repeat' (first | trivial)) (show ¬ (2 ∈ ([] : List Nat)) by decide) (ALe.pv PLe.nil)) (back [0, 1, 2] rfl rfl ⟨rfl, rfl, rfl, trivial⟩ (by repeat' (first | exact trivial | exact rfl | refine And.intro ?_ ?_)))⟩
              | (refine ⟨(k, e0 :: l), ⟨c2, (by show List.length _ ≤ 5; simp only [List.length_cons]; omega)⟩, Ghost.trans (Ghost.shut (i := 2) (c := 1) (x := .ms 3 4 0 ((List.map Exam.row l).length + 1)) rfl rfl rfl (by repeat' (first | (show 0 + _ ≤ List.length _; simp))) (show ¬ (2 ∈ ([3] : List Nat)) by decide) (ALe.pv (PLe.sl (?_ : PLeLL _ ((e0 :: l).map Exam.row))))) (back [0, 1, 2] rfl rfl ⟨rfl, rfl, rfl, trivial⟩ (by repeat' (first | exact trivial | exact rfl | refine And.intro ?_ ?_)))⟩
                 rw [List.drop_zero, List.take_of_length_le (by simp)]
                 exact PLeLL.refl)
          · repeat' (first | (refine bytes_one (by omega) (by omega) rfl (fun s hs => ?_)) | ((show Nat.le (ByteArray.size _ + ByteArray.size _) _; rw [hs]; exact Nat.le_of_ble_eq_true rfl)) | refine o1 ?_ | refine o2 ?_ | refine k1 ?_ | refine k2 ?_ | refine k3 ?_ | refine k4 ?_ | refine k6 ?_ | refine And.intro ?_ ?_ | refine o3 ?_ | refine o4 ?_ | (intro h; first | exact Bool.noConfusion h | exact nz _ h | exact nl h | (simp at h; done) | (simp at h; first | (exfalso; omega) | skip) | skip) | exact (by kernel_rfl : drawOk _ _ = true) | refine eqv_wrap (by omega) (by omega) ?_ | refine eqv_u8 (by omega) (by omega) ?_ | (change vcFunD _ _ _ _ _; refine callD_next 0 rfl (by assumption) (by assumption) (by omega) (by omega) ?_; intro v kq hv1 hv2 hkq) | fail)
            all_goals first
              | (exfalso; omega)
              | skip
            refine loop_in (fun x : Nat × Nat × List Str => [(7, vint .i64 x.1)]) (fun x => [dice t x.2.1, zeroX, some ⟨33, 8, false, .box [.pv (encRooms rl), slP 3 4 ((e0 :: l).map Exam.row), nilA, z0, z0, z0, z0, z0]⟩, obP 69 4 ((e0 :: l).map Exam.row), none, some ⟨69, 4, false, .box [.pv (es (ByteArray.mk #[69] ++ s)), vint .i64 (1 + v), nilA, slP 6 1 (x.2.2.map fun w => [es w])]⟩, obP 9 1 (x.2.2.map fun w => [es w])])
              (fun x => (x.1 ≤ 4 ∧ x.2.2.length ≤ x.1) ∧ x.2.1 ≤ t.length) (fun x => 4 - x.1) (0, kq, []) ⟨⟨by simp, by simp⟩, hkq⟩ ⟨?_, ?_⟩
            · exact back [0, 1, 2, 3, 4, 5, 6] rfl rfl (by repeat' (first | exact trivial | exact rfl | refine And.intro ?_ ?_)) (by repeat' (first | exact trivial | exact rfl | refine And.intro ?_ ?_))
            rintro ⟨i, k, ss⟩ ⟨c3, c4⟩
            rcases ss with _ | ⟨w0, ss⟩
            · dsimp only [slP, obP, zeroX, nilA, z0, List.length_cons, List.length_nil, List.map] at c3 c4 ⊢
              rcases Nat.lt_or_ge i 4 with hi | hi
              · repeat' (first | (refine bytes_one (by omega) (by omega) rfl (fun sq hsq => ?_)) | ((show Nat.le (ByteArray.size _ + ByteArray.size _) _; rw [hsq]; exact Nat.le_of_ble_eq_true rfl)) | refine o1 ?_ | refine o2 ?_ | refine k1 ?_ | refine k2 ?_ | refine k3 ?_ | refine k4 ?_ | refine k6 ?_ | refine And.intro ?_ ?_ | (intro h; first | exact Bool.noConfusion h | exact nz _ h | exact nl h | (simp at h; done) | (simp at h; first | (exfalso; omega) | skip) | skip) | (refine (?_ : srcLen _ = rowsLen _); rfl) | exact Nat.le_of_ble_eq_true rfl | refine eqv_wrap (by omega) (by omega) ?_ | refine eqv_u8 (by omega) (by omega) ?_ | refine eqv_to _ (app_first rfl) (eqv_to 1 rfl ?_) | (change vcFun _ _ _ _ _; refine call_one2 0 rfl (by assumption) (by assumption) (by omega) (by omega) ?_; intro bq kq hkq) | fail)
                all_goals first
                  | (exfalso; omega)
                  | skip
                · exact ⟨(i + 1, kq, [ByteArray.mk #[115] ++ sq]), ⟨⟨by show i + 1 ≤ 4; omega, by show List.length _ ≤ i + 1; simp; try omega⟩, hkq⟩, (by show 4 - (i + 1) < 4 - i; omega), back [0, 1, 2, 3, 4, 5, 9] rfl rfl (by repeat' (first | exact trivial | exact rfl | refine And.intro ?_ ?_)) (by repeat' (first | exact trivial | exact rfl | refine And.intro ?_ ?_))⟩
                · exact ⟨(i + 1, kq, []), ⟨⟨by show i + 1 ≤ 4; omega, by show List.length _ ≤ i + 1; simp; try omega⟩, hkq⟩, (by show 4 - (i + 1) < 4 - i; omega), back [0, 1, 2, 3, 4, 5, 6] rfl rfl (by repeat' (first | exact trivial | exact rfl | refine And.intro ?_ ?_)) (by repeat' (first | exact trivial | exact rfl | refine And.intro ?_ ?_))⟩
              · repeat' (first | (refine join_in (a := .seq (.region 19 _ _) _) (fun _ => []) (fun x : Nat × List Str => [dice t x.1, zeroX, some ⟨33, 8, false, .box [.pv (encRooms rl), slP 3 4 ((e0 :: l).map Exam.row), nilA, z0, z0, z0, z0, z0]⟩, obP 69 4 ((e0 :: l).map Exam.row), none, some ⟨69, 4, false, .box [.pv (es (ByteArray.mk #[69] ++ s)), vint .i64 (1 + v), nilA, .pv (encStrs x.2)]⟩]) (fun x => x.1 ≤ t.length) ?_) | refine o1 ?_ | refine o2 ?_ | refine k1 ?_ | refine k2 ?_ | refine k3 ?_ | refine k8 ?_ | refine And.intro ?_ ?_ | (intro h; first | exact Bool.noConfusion h | exact nz _ h | exact nl h | (simp at h; done) | (simp at h; first | (exfalso; omega) | skip) | skip) | fail)
                all_goals first
                  | (exfalso; omega)
                  | skip
                · exact ⟨(k, [⟨#[115, 57]⟩]), c4, Ghost.trans (Ghost.shut (i := 5) (c := 3) (x := .ms 7 1 0 1) rfl rfl rfl (by repeat' (first | (show 0 + _ ≤ List.length _; simp))) (show ¬ (5 ∈ ([7] : List Nat)) by decide) ALe.refl) (back [0, 1, 2, 3, 4, 5] rfl rfl (by repeat' (first | exact trivial | exact rfl | refine And.intro ?_ ?_)) (by repeat' (first | exact trivial | exact rfl | refine And.intro ?_ ?_)))⟩
                refine ⟨?_⟩
                rintro ⟨k, us⟩ c5
                dsimp only [slP, obP, zeroX, nilA, z0, List.length_cons, List.length_nil, List.map] at c5 ⊢
                repeat' (first | (refine join_in (a := .seq (.region 21 _ _) _) (fun _ => []) (fun x : Nat × List Str => [dice t x.1, zeroX, some ⟨33, 8, false, .box [.pv (encRooms rl), slP 3 4 ((e0 :: l).map Exam.row), nilA, z0, z0, z0, z0, z0]⟩, obP 69 4 ((e0 :: l).map Exam.row), none, some ⟨69, 4, false, .box [.pv (es (ByteArray.mk #[69] ++ s)), vint .i64 (1 + v), .pv (encStrs x.2), .pv (encStrs us)]⟩]) (fun x => x.1 ≤ t.length) ?_) | refine o1 ?_ | refine o2 ?_ | refine k1 ?_ | refine k2 ?_ | refine k3 ?_ | refine k6 ?_ | refine And.intro ?_ ?_ | (intro h; first | exact Bool.noConfusion h | exact nz _ h | exact nl h | (simp at h; done) | (simp at h; first | (exfalso; omega) | skip) | skip) | (change vcFun _ _ _ _ _; refine call_one2 0 rfl (by assumption) (by assumption) (by omega) (by omega) ?_; intro bq kq hkq) | fail)
                · exact ⟨(kq, [⟨#[108, 97, 98]⟩]), hkq, Ghost.trans (Ghost.shut (i := 5) (c := 2) (x := .ms 6 1 0 1) rfl rfl rfl (by repeat' (first | (show 0 + _ ≤ List.length _; simp))) (show ¬ (5 ∈ ([6] : List Nat)) by decide) ALe.refl) (back [0, 1, 2, 3, 4, 5] rfl rfl (by repeat' (first | exact trivial | exact rfl | refine And.intro ?_ ?_)) (by repeat' (first | exact trivial | exact rfl | refine And.intro ?_ ?_)))⟩
                · exact ⟨(kq, []), hkq, Ghost.trans (Ghost.shut (i := 5) (c := 2) (x := .pv (.val (.slice none 0 0))) rfl rfl rfl (by repeat' (first | trivial)) (show ¬ (5 ∈ ([] : List Nat)) by decide) (ALe.pv PLe.nil)) (back [0, 1, 2, 3, 4, 5] rfl rfl (by repeat' (first | exact trivial | exact rfl | refine And.intro ?_ ?_)) (by repeat' (first | exact trivial | exact rfl | refine And.intro ?_ ?_)))⟩
                refine ⟨?_⟩
                rintro ⟨k, fs⟩ c6
                dsimp only [slP, obP, zeroX, nilA, z0, List.length_cons, List.length_nil, List.map] at c6 ⊢
                repeat' (first | (refine app_consm (f := Exam.row) ⟨ByteArray.mk #[69] ++ s, 1 + v, fs, us⟩ rfl ?_) | refine o1 ?_ | refine o2 ?_ | refine k2 ?_ | refine And.intro ?_ ?_ | (refine (?_ : srcLen _ = rowsLen _); rfl) | refine eqv_wrap (by omega) (by omega) ?_ | (refine (?_ : _ ≤ 140737488355328); simp [rowsLen] <;> omega) | (refine (?_ : _ ≤ 9223372036854775807); simp [rowsLen] <;> omega) | (refine (?_ : _ = rowsLen _); simp [rowsLen] <;> omega) | fail)
                all_goals first
                  | (exfalso; omega)
                  | skip
                · exact ⟨(n - 1, k, e0 :: (l ++ [⟨ByteArray.mk #[69] ++ s, 1 + v, fs, us⟩])), ⟨by show n - 1 + List.length _ ≤ 5; simp; try omega, c6⟩, (by show n - 1 < n; omega), back [0, 1, 2, 7] rfl rfl (by repeat' (first | exact trivial | exact rfl | refine And.intro ?_ ?_)) ⟨slot_eq rfl (congrArg (vint .i64) (by show _ = ((n - 1 : Nat) : Int); omega)), by repeat' (first | exact trivial | exact rfl | refine And.intro ?_ ?_)⟩⟩
            · dsimp only [slP, obP, zeroX, nilA, z0, List.length_cons, List.length_nil, List.map] at c3 c4 ⊢
              rcases Nat.lt_or_ge i 4 with hi | hi
              · repeat' (first | (refine bytes_one (by omega) (by omega) rfl (fun sq hsq => ?_)) | ((show Nat.le (ByteArray.size _ + ByteArray.size _) _; rw [hsq]; exact Nat.le_of_ble_eq_true rfl)) | (refine app_consm (f := fun w => [es w]) (e0 := w0) (ByteArray.mk #[115] ++ sq) rfl ?_) | refine o1 ?_ | refine o2 ?_ | refine k1 ?_ | refine k2 ?_ | refine k3 ?_ | refine k4 ?_ | refine k6 ?_ | refine And.intro ?_ ?_ | (intro h; first | exact Bool.noConfusion h | exact nz _ h | exact nl h | (simp at h; done) | (simp at h; first | (exfalso; omega) | skip) | skip) | (refine (?_ : srcLen _ = rowsLen _); rfl) | refine eqv_wrap (by omega) (by omega) ?_ | refine eqv_u8 (by omega) (by omega) ?_ | (refine (?_ : _ ≤ 140737488355328); simp [rowsLen] <;> omega) | (refine (?_ : _ ≤ 9223372036854775807); simp [rowsLen] <;> omega) | (refine (?_ : _ = rowsLen _); simp [rowsLen] <;> omega) | (change vcFun _ _ _ _ _; refine call_one2 0 rfl (by assumption) (by assumption) (by omega) (by omega) ?_; intro bq kq hkq) | fail)
                all_goals first
                  | (exfalso; omega)
                  | skip
                · exact ⟨(i + 1, kq, w0 :: (ss ++ [ByteArray.mk #[115] ++ sq])), ⟨⟨by show i + 1 ≤ 4; omega, by show List.length _ ≤ i + 1; simp; try omega⟩, hkq⟩, (by show 4 - (i + 1) < 4 - i; omega), back [0, 1, 2, 3, 4, 5, 9] rfl rfl (by repeat' (first | exact trivial | exact rfl | refine And.intro ?_ ?_)) (by repeat' (first | exact trivial | exact rfl | refine And.intro ?_ ?_))⟩
                · exact ⟨(i + 1, kq, w0 :: ss), ⟨⟨by show i + 1 ≤ 4; omega, by show List.length _ ≤ i + 1; simp; try omega⟩, hkq⟩, (by show 4 - (i + 1) < 4 - i; omega), back [0, 1, 2, 3, 4, 5, 6] rfl rfl (by repeat' (first | exact trivial | exact rfl | refine And.intro ?_ ?_)) (by repeat' (first | exact trivial | exact rfl | refine And.intro ?_ ?_))⟩
              · repeat' (first | (refine join_in (a := .seq (.region 19 _ _) _) (fun _ => []) (fun x : Nat × List Str => [dice t x.1, zeroX, some ⟨33, 8, false, .box [.pv (encRooms rl), slP 3 4 ((e0 :: l).map Exam.row), nilA, z0, z0, z0, z0, z0]⟩, obP 69 4 ((e0 :: l).map Exam.row), none, some ⟨69, 4, false, .box [.pv (es (ByteArray.mk #[69] ++ s)), vint .i64 (1 + v), nilA, .pv (encStrs x.2)]⟩]) (fun x => x.1 ≤ t.length) ?_) | refine o1 ?_ | refine o2 ?_ | refine k1 ?_ | refine k2 ?_ | refine k3 ?_ | refine k6 ?_ | refine k8 ?_ | refine And.intro ?_ ?_ | (intro h; first | exact Bool.noConfusion h | exact nz _ h | exact nl h | (simp at h; done) | (simp at h; first | (exfalso; omega) | skip) | skip) | fail)
                all_goals first
                  | (exfalso; omega)
                  | skip
                · refine ⟨(k, w0 :: ss), c4, Ghost.trans (Ghost.shut (i := 5) (c := 3) (x := .ms 6 1 0 ((List.map (fun w => [es w]) ss).length + 1)) rfl rfl rfl (by repeat' (first | (show 0 + _ ≤ List.length _; simp))) (show ¬ (5 ∈ ([6] : List Nat)) by decide) (ALe.pv (PLe.sl (?_ : PLeLL _ ((w0 :: ss).map fun w => [es w]))))) (back [0, 1, 2, 3, 4, 5] rfl rfl (by repeat' (first | exact trivial | exact rfl | refine And.intro ?_ ?_)) (by repeat' (first | exact trivial | exact rfl | refine And.intro ?_ ?_)))⟩
                  rw [List.drop_zero, List.take_of_length_le (by simp)]
                  exact PLeLL.refl
                refine ⟨?_⟩
                rintro ⟨k, us⟩ c5
                dsimp only [slP, obP, zeroX, nilA, z0, List.length_cons, List.length_nil, List.map] at c5 ⊢
                repeat' (first | (refine join_in (a := .seq (.region 21 _ _) _) (fun _ => []) (fun x : Nat × List Str => [dice t x.1, zeroX, some ⟨33, 8, false, .box [.pv (encRooms rl), slP 3 4 ((e0 :: l).map Exam.row), nilA, z0, z0, z0, z0, z0]⟩, obP 69 4 ((e0 :: l).map Exam.row), none, some ⟨69, 4, false, .box [.pv (es (ByteArray.mk #[69] ++ s)), vint .i64 (1 + v), .pv (encStrs x.2), .pv (encStrs us)]⟩]) (fun x => x.1 ≤ t.length) ?_) | refine o1 ?_ | refine o2 ?_ | refine k1 ?_ | refine k2 ?_ | refine k3 ?_ | refine k6 ?_ | refine And.intro ?_ ?_ | (intro h; first | exact Bool.noConfusion h | exact nz _ h | exact nl h | (simp at h; done) | (simp at h; first | (exfalso; omega) | skip) | skip) | (change vcFun _ _ _ _ _; refine call_one2 0 rfl (by assumption) (by assumption) (by omega) (by omega) ?_; intro bq kq hkq) | fail)
                · exact ⟨(kq, [⟨#[108, 97, 98]⟩]), hkq, Ghost.trans (Ghost.shut (i := 5) (c := 2) (x := .ms 6 1 0 1) rfl rfl rfl (by repeat' (first | (show 0 + _ ≤ List.length _; simp))) (show ¬ (5 ∈ ([6] : List Nat)) by decide) ALe.refl) (back [0, 1, 2, 3, 4, 5] rfl rfl (by repeat' (first | exact trivial | exact rfl | refine And.intro ?_ ?_)) (by repeat' (first | exact trivial | exact rfl | refine And.intro ?_ ?_)))⟩
                · exact ⟨(kq, []), hkq, Ghost.trans (Ghost.shut (i := 5) (c := 2) (x := .pv (.val (.slice none 0 0))) rfl rfl rfl (by repeat' (first | trivial)) (show ¬ (5 ∈ ([] : List Nat)) by decide) (ALe.pv PLe.nil)) (back [0, 1, 2, 3, 4, 5] rfl rfl (by repeat' (first | exact trivial | exact rfl | refine And.intro ?_ ?_)) (by repeat' (first | exact trivial | exact rfl | refine And.intro ?_ ?_)))⟩
                refine ⟨?_⟩
                rintro ⟨k, fs⟩ c6
                dsimp only [slP, obP, zeroX, nilA, z0, List.length_cons, List.length_nil, List.map] at c6 ⊢
                repeat' (first | (refine app_consm (f := Exam.row) ⟨ByteArray.mk #[69] ++ s, 1 + v, fs, us⟩ rfl ?_) | refine o1 ?_ | refine o2 ?_ | refine k2 ?_ | refine And.intro ?_ ?_ | (refine (?_ : srcLen _ = rowsLen _); rfl) | refine eqv_wrap (by omega) (by omega) ?_ | (refine (?_ : _ ≤ 140737488355328); simp [rowsLen] <;> omega) | (refine (?_ : _ ≤ 9223372036854775807); simp [rowsLen] <;> omega) | (refine (?_ : _ = rowsLen _); simp [rowsLen] <;> omega) | fail)
                all_goals first
                  | (exfalso; omega)
                  | skip
                · exact ⟨(n - 1, k, e0 :: (l ++ [⟨ByteArray.mk #[69] ++ s, 1 + v, fs, us⟩])), ⟨by show n - 1 + List.length _ ≤ 5; simp; try omega, c6⟩, (by show n - 1 < n; omega), back [0, 1, 2, 7] rfl rfl (by repeat' (first | exact trivial | exact rfl | refine And.intro ?_ ?_)) ⟨slot_eq rfl (congrArg (vint .i64) (by show _ = ((n - 1 : Nat) : Int); omega)), by repeat' (first | exact trivial | exact rfl | refine And.intro ?_ ?_)⟩⟩
      refine ⟨?_⟩
      rintro ⟨k, l⟩ ⟨c3, cle⟩
      dsimp only [slP, obP, zeroX, nilA, z0, List.length_cons, List.length_nil] at c3 ⊢
      repeat' (first | (refine join_in (a := .seq (.region 25 _ _) _) (fun _ => []) (fun x : Nat × List Sitting => [dice t x.1, zeroX, some ⟨33, 8, false, .box [.pv (encRooms rl), .pv (.sl 4 (l.map Exam.row)), .pv (.sl 4 (x.2.map Sitting.row)), z0, z0, z0, z0, z0]⟩]) (fun x => x.1 ≤ t.length ∧ x.2.length ≤ 5) ?_) | refine o1 ?_ | refine o2 ?_ | refine k1 ?_ | refine k2 ?_ | refine k4 ?_ | refine And.intro ?_ ?_ | refine eqv_wrap (by omega) (by omega) ?_ | (change vcFun _ _ _ _ _; refine call_next 0 rfl (by assumption) (by assumption) (by omega) (by omega) ?_; intro v kq hv1 hv2 hkq) | fail)
      · refine loop_in (fun x : Nat × Int × Int × Nat × List (List PV) => [(8, vint .i64 x.2.1), (9, vint .i64 x.2.2.1), (10, vint .i64 x.1)]) (fun x => [dice t x.2.2.2.1, zeroX, some ⟨33, 8, false, .box [.pv (encRooms rl), .pv (.sl 4 (l.map Exam.row)), slP 3 4 x.2.2.2.2, z0, z0, z0, z0, z0]⟩, obP 23 4 x.2.2.2.2])
          (fun x => (x.1 + x.2.2.2.2.length ≤ 5 ∧ 0 ≤ x.2.1 ∧ x.2.1 + 10 * x.1 ≤ 100 ∧ 0 ≤ x.2.2.1 ∧ x.2.2.1 + 10 * x.1 ≤ 100) ∧ x.2.2.2.1 ≤ t.length ∧ ∀ r ∈ x.2.2.2.2, sitR r) (fun x => x.1) ((1 + v).toNat, 0, 0, kq, []) ⟨⟨by simp; omega, by simp, by simp; omega, by simp, by simp; omega⟩, hkq, by simp⟩ ⟨?_, ?_⟩
        · exact back [0, 1, 2, 3] rfl rfl ⟨rfl, rfl, rfl, trivial⟩ ⟨rfl, rfl, slot_eq rfl (congrArg (vint .i64) (by show _ = (((1 + v).toNat : Nat) : Int); omega)), by repeat' (first | exact trivial | exact rfl | refine And.intro ?_ ?_)⟩
        rintro ⟨n, day, start, k, rs⟩ ⟨c4, c5, c6⟩
        rcases rs with _ | ⟨r, rs⟩
        · dsimp only [slP, obP, zeroX, nilA, z0, List.length_cons, List.length_nil] at c4 c5 c6 ⊢
          rcases Nat.eq_zero_or_pos n with rfl | hn
          · obtain ⟨sl, hsl⟩ := sits_ex c6
            repeat' (first | refine o1 ?_ | refine o2 ?_ | refine k1 ?_ | refine k2 ?_ | refine k3 ?_ | refine k8 ?_ | refine And.intro ?_ ?_ | (intro h; first | exact Bool.noConfusion h | exact nz _ h | exact nl h | (simp at h; done) | (simp at h; first | (exfalso; omega) | skip) | skip) | fail)
            first
              | exact ⟨(k, []), ⟨c5, Nat.zero_le _⟩, Ghost.trans (Ghost.shut (i := 2) (c := 2) (x := .pv (.val (.slice none 0 0))) rfl rfl rfl (by repeat' (first | trivial)) (show ¬ (2 ∈ ([] : List Nat)) by decide) (ALe.pv PLe.nil)) (back [0, 1, 2] rfl rfl ⟨rfl, rfl, rfl, trivial⟩ (by repeat' (first | exact trivial | exact rfl | refine And.intro ?_ ?_)))⟩
              | (refine ⟨(k, sl), ⟨c5, (by have := congrArg List.length hsl; simp only [List.length_cons, List.length_map] at this; show sl.length ≤ 5; omega)⟩, Ghost.trans (Ghost.shut (i := 2) (c := 2) (x := .ms 3 4 0 (rs.length + 1)) rfl rfl rfl (by skip) (show ¬ (2 ∈ ([3] : List Nat)) by decide) (ALe.pv (PLe.sl (?_ : PLeLL _ (sl.map Sitting.row))))) (back [0, 1, 2] rfl rfl ⟨rfl, rfl, rfl, trivial⟩ (by skip))⟩
                 rw [← hsl, List.drop_zero, List.take_of_length_le (by simp)]
                 exact PLeLL.refl)
          · repeat' (first | refine o1 ?_ | refine o2 ?_ | refine k1 ?_ | refine k2 ?_ | refine k3 ?_ | refine k4 ?_ | refine k6 ?_ | refine And.intro ?_ ?_ | (intro h; first | exact Bool.noConfusion h | exact nz _ h | exact nl h | (simp at h; done) | (simp at h; first | (exfalso; omega) | skip) | skip) | (refine (?_ : srcLen _ = rowsLen _); rfl) | exact Nat.le_of_ble_eq_true rfl | exact (by kernel_rfl : drawOk _ _ = true) | refine eqv_wrap (by omega) (by omega) ?_ | refine eqv_to _ (app_first rfl) (eqv_to 1 rfl ?_) | (change vcFun _ _ _ _ _; refine call_next 0 rfl (by assumption) (by assumption) (by omega) (by omega) ?_; intro v kq hv1 hv2 hkq) | (change vcFun _ _ _ _ _; refine call_one2 0 rfl (by assumption) (by assumption) (by omega) (by omega) ?_; intro bq kq hkq) | fail)
            all_goals first
              | (exfalso; omega)
              | skip
            all_goals exact ⟨(n - 1, _, _, kq, [_]), ⟨⟨(by show n - 1 + List.length _ ≤ 5; simp; try omega), (by dsimp only; omega), (by dsimp only; omega), (by dsimp only; omega), (by dsimp only; omega)⟩, hkq, (fun q hq => by
              rcases mem_app (l := []) hq with hq | hq
              · exact c6 q hq
              · subst hq; exact ⟨⟨_, _, _, _⟩, rfl⟩)⟩, (by show n - 1 < n; omega), back [0, 1, 2, 6] rfl rfl ⟨rfl, rfl, rfl, rfl, trivial⟩ ⟨rfl, rfl, slot_eq rfl (congrArg (vint .i64) (by show _ = ((n - 1 : Nat) : Int); omega)), by repeat' (first | exact trivial | exact rfl | refine And.intro ?_ ?_)⟩⟩
        · dsimp only [slP, obP, zeroX, nilA, z0, List.length_cons, List.length_nil] at c4 c5 c6 ⊢
          rcases Nat.eq_zero_or_pos n with rfl | hn
          · obtain ⟨sl, hsl⟩ := sits_ex c6
            repeat' (first | refine o1 ?_ | refine o2 ?_ | refine k1 ?_ | refine k2 ?_ | refine k3 ?_ | refine k8 ?_ | refine And.intro ?_ ?_ | (intro h; first | exact Bool.noConfusion h | exact nz _ h | exact nl h | (simp at h; done) | (simp at h; first | (exfalso; omega) | skip) | skip) | fail)
            first
              | exact ⟨(k, []), ⟨c5, Nat.zero_le _⟩, Ghost.trans (Ghost.shut (i := 2) (c := 2) (x := .pv (.val (.slice none 0 0))) rfl rfl rfl (by repeat' (first | trivial)) (show ¬ (2 ∈ ([] : List Nat)) by decide) (ALe.pv PLe.nil)) (back [0, 1, 2] rfl rfl ⟨rfl, rfl, rfl, trivial⟩ (by repeat' (first | exact trivial | exact rfl | refine And.intro ?_ ?_)))⟩
              | (refine ⟨(k, sl), ⟨c5, (by have := congrArg List.length hsl; simp only [List.length_cons, List.length_map] at this; show sl.length ≤ 5; omega)⟩, Ghost.trans (Ghost.shut (i := 2) (c := 2) (x := .ms 3 4 0 (rs.length + 1)) rfl rfl rfl (by repeat' (first | (show 0 + _ ≤ List.length _; simp))) (show ¬ (2 ∈ ([3] : List Nat)) by decide) (ALe.pv (PLe.sl (?_ : PLeLL _ (sl.map Sitting.row))))) (back [0, 1, 2] rfl rfl ⟨rfl, rfl, rfl, trivial⟩ (by repeat' (first | exact trivial | exact rfl | refine And.intro ?_ ?_)))⟩
                 rw [← hsl, List.drop_zero, List.take_of_length_le (by simp)]
                 exact PLeLL.refl)
          · repeat' (first | (refine app_cons ?_) | refine o1 ?_ | refine o2 ?_ | refine k1 ?_ | refine k2 ?_ | refine k3 ?_ | refine k4 ?_ | refine k6 ?_ | refine And.intro ?_ ?_ | (intro h; first | exact Bool.noConfusion h | exact nz _ h | exact nl h | (simp at h; done) | (simp at h; first | (exfalso; omega) | skip) | skip) | (refine (?_ : srcLen _ = rowsLen _); rfl) | exact (by kernel_rfl : drawOk _ _ = true) | refine eqv_wrap (by omega) (by omega) ?_ | (refine (?_ : _ ≤ 140737488355328); simp [rowsLen] <;> omega) | (refine (?_ : _ ≤ 9223372036854775807); simp [rowsLen] <;> omega) | (refine (?_ : _ = rowsLen _); simp [rowsLen] <;> omega) | (change vcFun _ _ _ _ _; refine call_next 0 rfl (by assumption) (by assumption) (by omega) (by omega) ?_; intro v kq hv1 hv2 hkq) | (change vcFun _ _ _ _ _; refine call_one2 0 rfl (by assumption) (by assumption) (by omega) (by omega) ?_; intro bq kq hkq) | fail)
            all_goals first
              | (exfalso; omega)
              | skip
            all_goals exact ⟨(n - 1, _, _, kq, r :: (rs ++ [_])), ⟨⟨(by show n - 1 + List.length _ ≤ 5; simp; try omega), (by dsimp only; omega), (by dsimp only; omega), (by dsimp only; omega), (by dsimp only; omega)⟩, hkq, (fun q hq => by
              rcases mem_app (l := r :: rs) hq with hq | hq
              · exact c6 q hq
              · subst hq; exact ⟨⟨_, _, _, _⟩, rfl⟩)⟩, (by show n - 1 < n; omega), back [0, 1, 2, 6] rfl rfl ⟨rfl, rfl, rfl, rfl, trivial⟩ ⟨rfl, rfl, slot_eq rfl (congrArg (vint .i64) (by show _ = ((n - 1 : Nat) : Int); omega)), by repeat' (first | exact trivial | exact rfl | refine And.intro ?_ ?_)⟩⟩
      · refine ⟨?_⟩
        rintro ⟨k, sl⟩ ⟨c4, csl⟩
        dsimp only [slP, obP, zeroX, nilA, z0, List.length_cons, List.length_nil] at c4 csl cle ⊢
        repeat' (first | refine o1 ?_ | refine o2 ?_ | refine k1 ?_ | refine k2 ?_ | refine k7 ?_ | (change vcFun _ _ _ _ _; refine call_next 0 rfl (by assumption) (by assumption) (by omega) (by omega) ?_; intro v kq hv1 hv2 hkq) | fail)
        rename_i w1 q1 a1 a2 a3 w2 q2 b1 b2 b3 w3 q3 d1 d2 d3 w4 q4 e1 e2 e3
        exact ret_obj [0] [dice t kq] rfl rfl ⟨rfl, trivial⟩ (r' := ag (Exams.cells ⟨rl, l, sl, ⟨w1, w2, w3, w4, v⟩⟩)) rfl ⟨⟨rl, l, sl, ⟨w1, w2, w3, w4, v⟩⟩, kq, hkq, ⟨crl, cle, csl⟩, rfl, rfl⟩
    · repeat' (first | (refine bytes_one (by omega) (by omega) rfl (fun s hs => ?_)) | ((show Nat.le (ByteArray.size _ + ByteArray.size _) _; rw [hs]; exact Nat.le_of_ble_eq_true rfl)) | (refine app_cons ?_) | refine o1 ?_ | refine o2 ?_ | refine k1 ?_ | refine k2 ?_ | refine k3 ?_ | refine k4 ?_ | refine k6 ?_ | refine And.intro ?_ ?_ | refine o3 ?_ | refine o4 ?_ | (intro h; first | exact Bool.noConfusion h | exact nz _ h | exact nl h | (simp at h; done) | (simp at h; first | (exfalso; omega) | skip) | skip) | (refine (?_ : srcLen _ = rowsLen _); rfl) | exact (by kernel_rfl : drawOk _ _ = true) | refine eqv_wrap (by omega) (by omega) ?_ | refine eqv_u8 (by omega) (by omega) ?_ | (refine (?_ : _ ≤ 140737488355328); simp [rowsLen] <;> omega) | (refine (?_ : _ ≤ 9223372036854775807); simp [rowsLen] <;> omega) | (refine (?_ : _ = rowsLen _); simp [rowsLen] <;> omega) | (change vcFunD _ _ _ _ _; refine callD_next 0 rfl (by assumption) (by assumption) (by omega) (by omega) ?_; intro v kq hv1 hv2 hkq) | fail)
      all_goals first
        | (exfalso; omega)
        | skip
      exact ⟨(n - 1, kq, r :: (rs ++ [_])), ⟨⟨by show n - 1 + (r :: (rs ++ [_])).length ≤ 5; simp; omega, by show 1 ≤ n - 1 + (r :: (rs ++ [_])).length; simp; try omega⟩, hkq, fun q hq => by
        rcases mem_app (l := r :: rs) hq with hq | hq
        · exact c3 q hq
        · subst hq; exact ⟨_, _, _, rfl⟩⟩, (by show n - 1 < n; omega), back [0, 1, 2, 6] rfl rfl ⟨rfl, rfl, rfl, rfl, trivial⟩ ⟨slot_eq rfl (congrArg (vint .i64) (by show _ = ((n - 1 : Nat) : Int); omega)), by repeat' (first | exact trivial | exact rfl | refine And.intro ?_ ?_)⟩⟩
end Go.Proofs.YtpnghlibmpainaaGreat.Cw
