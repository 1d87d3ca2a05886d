/-
  Part 6 of the proof (X11): what later parts use. No conditions.
-/
import Derived.Test.YtpnghlibmpainaaGreatMU5

/-
  Contracts: the model of examinations, by the builder.
-/
namespace Go.Proofs.YtpnghlibmpainaaGreat.Cw
open Go Go.Cw Go.Proofs
set_option linter.unusedVariables false
set_option maxRecDepth 100000
set_option maxHeartbeats 20000000

theorem ren_bxC {d i z : Nat} {rn : List Nat} {r : List (List PV)} {p0 p1 p2 p3 p4 p5 p6 p7 p8 p9 p10 p11 : PV} : renL d rn [.pv p0, .pv p1, .pv p2, .pv p3, .pv p4, .pv p5, .pv p6, .pv p7, .pv p8, slP i z r, .pv p9, .pv p10, .pv p11] = [.pv p0, .pv p1, .pv p2, .pv p3, .pv p4, .pv p5, .pv p6, .pv p7, .pv p8, slP (rn.getD i d) z r, .pv p9, .pv p10, .pv p11] := by simp [renL, renC, ren_sl]
def zeroM : List PV := [.val (.slice none 0 0), .val (.slice none 0 0), .val (.slice none 0 0), ei 0]
theorem le_zeroM : ALeL (pvs zeroM) (pvs (Model.cells ⟨[], [], [], 0⟩)) := ⟨ALe.pv PLe.nil, ALe.pv PLe.nil, ALe.pv PLe.nil, ALe.refl, trivial⟩
noncomputable def rowsA (x : Exams) (i : Nat) : List (List PV) := (x.exams.take i).map fun e => seatsRow (seatsV x e)
noncomputable def rowsC (x : Exams) (i : Nat) : List (List PV) := (x.exams.take i).map fun e => [.sl 6 (rowsO x (seatsV x e))]
theorem rowsA_succ {x : Exams} {i : Nat} {e : Exam} (h : x.exams[i]? = some e) : rowsA x (i + 1) = rowsA x i ++ [seatsRow (seatsV x e)] := by unfold rowsA; rw [take_snoc h, map_snoc]
theorem rowsC_succ {x : Exams} {i : Nat} {e : Exam} (h : x.exams[i]? = some e) : rowsC x (i + 1) = rowsC x i ++ [[.sl 6 (rowsO x (seatsV x e))]] := by unfold rowsC; rw [take_snoc h, map_snoc]
theorem rowsA_len {x : Exams} {i : Nat} : (rowsA x i).length ≤ i := by unfold rowsA; rw [List.length_map]; exact List.length_take_le ..
theorem rowsC_len {x : Exams} {i : Nat} : (rowsC x i).length ≤ i := by unfold rowsC; rw [List.length_map]; exact List.length_take_le ..
theorem bad_build {x : Exams} {i : Nat} {e : Exam} (h0 : examsE x = 0) (hall : ∀ j, j < i → sizeE x j = 0) (he : x.exams[i]? = some e) (h : ¬ (seatsV x e).length ≤ 24) : buildE x = 2 ∧ buildM x = ⟨[], [], [], 0⟩ := by
  have hi := (List.getElem?_eq_some_iff.1 he).1
  have hs : sizeE x i = 2 := by rw [sizeE_at he, if_pos (by omega)]
  have e2 : buildE x = 2 := by
    unfold buildE
    rw [if_neg (by simp [h0]), firstE_at hall (by rw [hs]; decide) hi, hs]
  exact ⟨e2, by unfold buildM; rw [e2]; exact if_neg (by decide)⟩
theorem rowsA_all {x : Exams} : rowsA x x.exams.length = (setsX x).map seatsRow := by unfold rowsA setsX; rw [List.take_length, List.map_map]; rfl
theorem le_rowsC {x : Exams} : PLeLL (rowsC x x.exams.length) ((clsX x).map optsRow) := by
  unfold rowsC clsX
  rw [List.take_length, List.map_map]
  refine PLeLL.map fun e _ => ⟨PLe.sl ?_, trivial⟩
  have h := le_optB (l := (seatsV x e).map (optS x))
  rw [List.map_map] at h
  exact h
theorem seats_sit {x : Exams} {e : Exam} {s : Seat} (h : s ∈ seatsV x e) : ∃ t, x.sits[s.sit]? = some t := by
  obtain ⟨i, -, h⟩ := gr_mem.1 h
  unfold seatsI at h
  split at h
  · rename_i t ht
    obtain ⟨k, r, -, -, hf⟩ := upto_mem.1 h
    unfold seatF at hf
    split at hf
    · injection hf with hf
      subst hf
      exact ⟨t, ht⟩
    · cases hf
  · cases h
theorem good_build {x : Exams} (h0 : examsE x = 0) (hall : ∀ j, j < x.exams.length → sizeE x j = 0) : buildE x = 0 ∧ buildM x = ⟨clsX x, prsU (setsX x) (entX x) 7, cntS (setsX x) (wtX x) (mostX x) x.rooms.length x.sits.length, 7⟩ ∧ ∀ e ∈ x.exams, (seatsV x e).length ≤ 24 := by
  have e1 : buildE x = 0 := by
    unfold buildE
    rw [if_neg (by simp [h0])]
    exact firstE_zero hall
  exact ⟨e1, by unfold buildM; exact if_pos e1, (build_z e1).2⟩
theorem c_build0 (x : Exams) (h0 : examsE x = 0) (hl : LensX x) (h6 : x.exams.length ≤ 6) : PCall Tryz.prog 20 [ag x.cells] (fun a => Leq a (.tup [ag (buildM x).cells, vint .i64 (buildE x)])) := by
  have h1 := c_exams x
  rw [h0] at h1
  refine acall_of tok mixed 105 rfl (fn := Tryz.f20) (c := Tryz.f20.body.getD .skip) (by kernel_rfl) (by kernel_rfl) (by kernel_rfl) rfl 0 rfl ?_
  repeat' (first | refine o1 ?_ | refine o2 ?_ | refine k1 ?_ | refine k2 ?_ | refine k3 ?_ | refine k4 ?_ | refine k6 ?_ | refine And.intro ?_ ?_ | (intro h; first | exact Bool.noConfusion h | exact nz _ h | exact nl h | (simp at h; done) | (simp at h; first | (exfalso; omega) | skip) | skip) | exact (by kernel_rfl : drawOk _ _ = true) | refine eqv_len_map ?_ | (change vcFun _ _ _ _ _; refine call_eq rfl (by repeat' (first | trivial | refine And.intro ?_ ?_ | (show 0 + _ ≤ List.length _; simp))) ALeL.refl (h1) rfl ?_) | fail)
  refine loop_for (fun i : Nat => [(1, .ptr 0 8 0 0), (2, .ptr 1 4 0 0), (3, vint .i64 0), (5, .ptr 2 13 0 0), (28, .pv (.sl 4 (x.exams.map Exam.row))), (29, vint .i64 x.exams.length), (30, vint .i64 i)])
    (fun i => [some ⟨33, 8, false, .box (pvs x.cells)⟩, some ⟨51, 4, false, .box (pvs zeroM)⟩, some ⟨102, 13, false, .box (pvs x.cells ++ [slP 3 1 (rowsA x i), slP 4 1 (rowsC x i), nilA, nilA, vint .i64 7])⟩, obP 155 1 (rowsA x i), obP 73 1 (rowsC x i)])
    (fun i => i ≤ x.exams.length ∧ ∀ j, j < i → sizeE x j = 0) (fun i => x.exams.length - i) 0 ⟨Nat.zero_le _, fun j hj => by omega⟩ ?_ ?_
  · exact back [0, 1, 2, 3, 4] rfl rfl (by repeat' (first | exact trivial | exact rfl | refine kept_bx ren_bxO rfl ?_ | refine And.intro ?_ ?_)) (by repeat' (first | exact trivial | exact rfl | refine And.intro ?_ ?_))
  intro i ⟨hi, hall⟩
  have la := rowsA_len (x := x) (i := i)
  have lc := rowsC_len (x := x) (i := i)
  rcases Nat.lt_or_ge i x.exams.length with hlt | hge
  · obtain ⟨e, he⟩ := getE hlt
    have hef := (hl.exam e (List.mem_of_getElem? he)).1
    have hopt := c_options x e (rowsA x i) (rowsC x i) hl hef (by omega) (by omega)
    have hsz := sizeE_at he
    have hbad := bad_build h0 hall he
    have hA := rowsA_succ he
    have hC := rowsC_succ he
    have hsr : (rowsA x i = [] ∧ rowsC x i = []) ∨ ((∃ a A, rowsA x i = a :: A) ∧ ∃ c C, rowsC x i = c :: C) := by
      unfold rowsA rowsC
      cases hx : x.exams.take i with
      | nil => exact .inl ⟨rfl, rfl⟩
      | cons g gs => exact .inr ⟨⟨_, _, rfl⟩, ⟨_, _, rfl⟩⟩
    generalize rowsA x i = SA at *
    generalize rowsC x i = SC at *
    unfold bxO at hopt
    rw [sl_app, sl_app, ob_app, ob_app] at hopt
    by_cases hb : (seatsV x e).length ≤ 24
    · rw [decide_eq_true hb] at hopt
      repeat' (first | (refine fh_ob ?_) | ((change vcFun _ _ _ _ _; refine call_opts (ps := x.cells) (es_ := e.row) (SA := SA) (SC := SC) hsr hopt (fun _ _ => ?_) ?_)) | refine o1 ?_ | refine o2 ?_ | refine k1 ?_ | refine k2 ?_ | refine k3 ?_ | refine k4 ?_ | refine k6 ?_ | refine And.intro ?_ ?_ | (intro h; first | exact Bool.noConfusion h | exact nz _ h | exact nl h | (simp at h; done) | (simp at h; first | (exfalso; omega) | skip) | skip) | exact (by kernel_rfl : drawOk _ _ = true) | refine eqv_wrap (by omega) (by omega) ?_ | refine ⟨_, _, (by first | rfl | assumption), at_map (by assumption), ?_⟩ | fail)
      · refine ⟨i + 1, ⟨by omega, all_lt_succ hall (by rw [hsz, if_neg (by omega)])⟩, by omega, ?_⟩
        rw [hA, hC, sl_app, sl_app, ob_app, ob_app]
        exact back [0, 1, 2, 8, 9] rfl rfl (by repeat' (first | exact trivial | exact rfl | refine And.intro ?_ ?_)) (by repeat' (first | exact trivial | exact rfl | refine And.intro ?_ ?_))
      · refine ⟨i + 1, ⟨by omega, all_lt_succ hall (by rw [hsz, if_neg (by omega)])⟩, by omega, ?_⟩
        rw [hA, hC, sl_app, sl_app, ob_app, ob_app]
        exact back [0, 1, 2, 6, 7] rfl rfl (by repeat' (first | exact trivial | exact rfl | refine And.intro ?_ ?_)) (by repeat' (first | exact trivial | exact rfl | refine And.intro ?_ ?_))
    · rw [decide_eq_false hb] at hopt
      obtain ⟨e1, e2⟩ := hbad hb
      rw [e1, e2]
      repeat' (first | (refine fh_ob ?_) | ((change vcFun _ _ _ _ _; refine call_opts (ps := x.cells) (es_ := e.row) (SA := SA) (SC := SC) hsr hopt (fun _ _ => ?_) ?_)) | refine o1 ?_ | refine o2 ?_ | refine k1 ?_ | refine k2 ?_ | refine k3 ?_ | refine k4 ?_ | refine k6 ?_ | refine k7 ?_ | refine And.intro ?_ ?_ | (intro h; first | exact Bool.noConfusion h | exact nz _ h | exact nl h | (simp at h; done) | (simp at h; first | (exfalso; omega) | skip) | skip) | exact (by kernel_rfl : drawOk _ _ = true) | refine ⟨_, _, (by first | rfl | assumption), at_map (by assumption), ?_⟩ | fail)
      all_goals
        change retOk _ _ _ _; refine ret_pure rfl (by repeat' (first | exact True.intro | refine And.intro ?_ ?_)) ?_
        exact ⟨ALe.tup ⟨ALe.agg le_zeroM, ALe.refl, trivial⟩⟩
  · obtain rfl : i = x.exams.length := by omega
    obtain ⟨e1, e2, h24⟩ := good_build h0 hall
    rw [e1, e2, rowsA_all]
    have hle := le_rowsC (x := x)
    generalize rowsC x x.exams.length = CR at *
    have hSl : (setsX x).length = x.exams.length := List.length_map _
    have hSat : ∀ (i : Nat) A, (setsX x)[i]? = some A → ∃ e, x.exams[i]? = some e ∧ A.length ≤ 24 ∧ ∀ s ∈ A, ∃ t, x.sits[s.sit]? = some t := fun i A hA => by
      unfold setsX at hA
      rw [List.getElem?_map] at hA
      obtain ⟨e, he, rfl⟩ := Option.map_eq_some_iff.1 hA
      exact ⟨e, he, h24 e (List.mem_of_getElem? he), fun s hs => seats_sit hs⟩
    refine forceH_in ?_
    refine ghost_seq (Γ' := [(1, .ptr 0 8 0 0), (2, .ptr 1 4 0 0), (3, vint .i64 0), (5, .ptr 2 13 0 0), (29, vint .i64 x.exams.length), (30, vint .i64 x.exams.length)]) (H' := [some ⟨33, 8, false, .box (pvs x.cells)⟩, some ⟨51, 4, false, .box (pvs zeroM)⟩, some ⟨102, 13, false, .box (pvs x.cells ++ [.pv (.sl 1 ((setsX x).map seatsRow)), slP 3 1 CR, nilA, nilA, vint .i64 7])⟩, obP 73 1 CR])
      (Ghost.shut_sl (i := 2) (c := 8) (id := 3) rfl rfl rfl (by decide) fun H' hl h2 hH => back [0, 1, 2, 4] rfl rfl (And.intro (hH 0 (by decide) (by decide)) (And.intro (hH 1 (by decide) (by decide)) (kept_bx ren_bxC h2 (kept_ob (hH 4 (by decide) (by decide)) trivial)))) (by repeat' (first | exact trivial | exact rfl | refine And.intro ?_ ?_))) ?_
    refine ghost_seq (Γ' := [(1, .ptr 0 8 0 0), (2, .ptr 1 4 0 0), (3, vint .i64 0), (5, .ptr 2 13 0 0), (29, vint .i64 x.exams.length), (30, vint .i64 x.exams.length)]) (H' := [some ⟨33, 8, false, .box (pvs x.cells)⟩, some ⟨51, 4, false, .box (pvs zeroM)⟩, some ⟨102, 13, false, .box (pvs x.cells ++ [.pv (.sl 1 ((setsX x).map seatsRow)), .pv (.sl 1 CR), nilA, nilA, vint .i64 7])⟩])
      (Ghost.shut_sl (i := 2) (c := 9) (id := 3) rfl rfl rfl (by decide) fun H' hl h2 hH => back [0, 1, 2] rfl rfl (And.intro (hH 0 (by decide) (by decide)) (And.intro (hH 1 (by decide) (by decide)) (And.intro h2 trivial))) (by repeat' (first | exact trivial | exact rfl | refine And.intro ?_ ?_))) ?_
    repeat' (first | refine o1 ?_ | refine o2 ?_ | refine k1 ?_ | refine k2 ?_ | refine k3 ?_ | refine k4 ?_ | refine k8 ?_ | refine And.intro ?_ ?_ | (intro h; first | exact Bool.noConfusion h | exact nz _ h | exact nl h | (simp at h; done) | (simp at h; first | (exfalso; omega) | skip) | skip) | fail)
    refine loop_for (fun u : Nat => [(1, .ptr 0 8 0 0), (2, .ptr 1 4 0 0), (3, vint .i64 0), (5, .ptr 2 13 0 0), (40, vint .i64 u)]) (fun u => [some ⟨33, 8, false, .box (pvs x.cells)⟩, some ⟨51, 4, false, .box (pvs zeroM)⟩, some ⟨102, 13, false, .box (pvs x.cells ++ [.pv (.sl 1 ((setsX x).map seatsRow)), .pv (.sl 1 CR), slP 3 4 ((prsU (setsX x) (entX x) u).map Pair.row), nilA, vint .i64 7])⟩, obP 116 4 ((prsU (setsX x) (entX x) u).map Pair.row)]) (fun u => u ≤ 7) (fun u => 7 - u) 0 (by omega) ?_ ?_
    · exact back [0, 1, 2, 3] rfl rfl (by repeat' (first | exact trivial | exact rfl | refine kept_bx ren_bxY rfl ?_ | refine And.intro ?_ ?_)) (by repeat' (first | exact trivial | exact rfl | refine And.intro ?_ ?_))
    intro u hu
    have lu := prsU_len (S := setsX x) (E := entX x) (u := u)
    have hSS : (setsX x).length * (setsX x).length ≤ 6 * 6 := Nat.mul_le_mul (by omega) (by omega)
    have hSU : u * ((setsX x).length * (setsX x).length) ≤ 7 * (6 * 6) := Nat.mul_le_mul hu hSS
    rcases Nat.lt_or_ge u 7 with hu7 | hu7
    · repeat' (first | (refine fh_ob ?_) | refine o1 ?_ | refine o2 ?_ | refine k1 ?_ | refine k2 ?_ | refine k3 ?_ | refine k4 ?_ | refine k6 ?_ | refine And.intro ?_ ?_ | (intro h; first | exact Bool.noConfusion h | exact nz _ h | exact nl h | (simp at h; done) | (simp at h; first | (exfalso; omega) | skip) | skip) | refine eqv_len_map ?_ | fail)
      refine loop_for (fun i : Nat => [(1, .ptr 0 8 0 0), (2, .ptr 1 4 0 0), (3, vint .i64 0), (5, .ptr 2 13 0 0), (40, vint .i64 u), (8, vint .i64 u), (45, vint .i64 x.exams.length), (46, vint .i64 i)]) (fun i => [some ⟨33, 8, false, .box (pvs x.cells)⟩, some ⟨51, 4, false, .box (pvs zeroM)⟩, some ⟨102, 13, false, .box (pvs x.cells ++ [.pv (.sl 1 ((setsX x).map seatsRow)), .pv (.sl 1 CR), slP 3 4 ((prsUi (setsX x) (entX x) u i).map Pair.row), nilA, vint .i64 7])⟩, obP 116 4 ((prsUi (setsX x) (entX x) u i).map Pair.row)]) (fun i => i ≤ x.exams.length) (fun i => x.exams.length - i) 0 (Nat.zero_le _) ?_ ?_
      · rw [prsUi_zero]
        exact back [0, 1, 2, 3] rfl rfl (by repeat' (first | exact trivial | exact rfl | refine kept_ob rfl ?_ | refine kept_bx ren_bxY rfl ?_ | refine And.intro ?_ ?_)) (by repeat' (first | exact trivial | exact rfl | refine And.intro ?_ ?_))
      intro i hi
      rcases Nat.lt_or_ge i x.exams.length with hil | hig
      · repeat' (first | (refine fh_ob ?_) | refine o1 ?_ | refine o2 ?_ | refine k1 ?_ | refine k2 ?_ | refine k3 ?_ | refine k4 ?_ | refine k6 ?_ | refine And.intro ?_ ?_ | (intro h; first | exact Bool.noConfusion h | exact nz _ h | exact nl h | (simp at h; done) | (simp at h; first | (exfalso; omega) | skip) | skip) | refine eqv_wrap (by omega) (by omega) ?_ | fail)
        refine loop_for (fun k : Nat => [(1, .ptr 0 8 0 0), (2, .ptr 1 4 0 0), (3, vint .i64 0), (5, .ptr 2 13 0 0), (40, vint .i64 u), (8, vint .i64 u), (45, vint .i64 x.exams.length), (46, vint .i64 i), (9, vint .i64 i), (10, vint .i64 k)]) (fun k => [some ⟨33, 8, false, .box (pvs x.cells)⟩, some ⟨51, 4, false, .box (pvs zeroM)⟩, some ⟨102, 13, false, .box (pvs x.cells ++ [.pv (.sl 1 ((setsX x).map seatsRow)), .pv (.sl 1 CR), slP 3 4 ((prsUk (setsX x) (entX x) u i k).map Pair.row), nilA, vint .i64 7])⟩, obP 116 4 ((prsUk (setsX x) (entX x) u i k).map Pair.row)]) (fun k => i + 1 ≤ k ∧ k ≤ x.exams.length) (fun k => x.exams.length - k) (i + 1) ⟨Nat.le_refl _, hil⟩ ?_ ?_
        · rw [prsUk_begin]
          exact back [0, 1, 2, 3] rfl rfl (by repeat' (first | exact trivial | exact rfl | refine kept_ob rfl ?_ | refine kept_bx ren_bxY rfl ?_ | refine And.intro ?_ ?_)) (by repeat' (first | exact trivial | exact rfl | refine And.intro ?_ ?_))
        intro k ⟨hk1, hk2⟩
        have lk := prsUk_len (S := setsX x) (E := entX x) (u := u) (i := i) (k := k) (by omega) (by omega)
        have hUU : (u + 1) * ((setsX x).length * (setsX x).length) ≤ 8 * (6 * 6) := Nat.mul_le_mul (by omega) hSS
        rcases Nat.lt_or_ge k x.exams.length with hkl | hkg
        · obtain ⟨A, hA⟩ := getE (show i < (setsX x).length by omega)
          obtain ⟨Bk, hBk⟩ := getE (show k < (setsX x).length by omega)
          obtain ⟨e, he, hAl, hsA⟩ := hSat i A hA
          obtain ⟨f, hf, hBl, hsB⟩ := hSat k Bk hBk
          have hpr := c_pair x (.sl 1 CR) ((prsUk (setsX x) (entX x) u i k).map Pair.row) u i k A Bk e f h0 hA hBk he hf hAl hBl hsA hsB (by rw [List.length_map]; omega)
          have hpo : ((tabS (entX x) u i k A Bk).any fun n => n != 0) = true → prsUk (setsX x) (entX x) u i (k + 1) = prsUk (setsX x) (entX x) u i k ++ [⟨i, k, u, tabS (entX x) u i k A Bk⟩] := fun h => prsUk_some (by unfold pairS; rw [hA, hBk]; exact if_pos ⟨by omega, h⟩)
          have hpn : ((tabS (entX x) u i k A Bk).any fun n => n != 0) = false → prsUk (setsX x) (entX x) u i (k + 1) = prsUk (setsX x) (entX x) u i k := fun h => prsUk_none (by unfold pairS; rw [hA, hBk]; exact if_neg fun q => by rw [h] at q; cases q.2)
          have hpo : ((tabS (entX x) u i k A Bk).any fun n => n != 0) = true → (prsUk (setsX x) (entX x) u i (k + 1)).map Pair.row = (prsUk (setsX x) (entX x) u i k).map Pair.row ++ [Pair.row ⟨i, k, u, tabS (entX x) u i k A Bk⟩] := fun h => by rw [hpo h, map_snoc]
          have hpn : ((tabS (entX x) u i k A Bk).any fun n => n != 0) = false → (prsUk (setsX x) (entX x) u i (k + 1)).map Pair.row = (prsUk (setsX x) (entX x) u i k).map Pair.row := fun h => by rw [hpn h]
          unfold bxP at hpr
          rw [sl_app, ob_app] at hpr
          generalize tabS (entX x) u i k A Bk = TB at *
          generalize (TB.any fun n => n != 0) = g at *
          generalize (prsUk (setsX x) (entX x) u i k).map Pair.row = PR at *
          repeat' (first | (refine fh_ob ?_) | ((change vcFun _ _ _ _ _; refine call_grow (ps := x.cells ++ [.sl 1 ((setsX x).map seatsRow), .sl 1 CR]) (qs := [.val (.slice none 0 0), ei 7]) (R := PR) (rest := [vint .i64 u, vint .i64 i, vint .i64 k]) (v := .tup []) (fun _ _ => rfl) (fun _ _ => rfl) hpr (fun hg hR => ?_) (fun hg => ?_) (fun hg hR => ?_) (fun hg => ?_))) | refine o1 ?_ | refine o2 ?_ | refine k1 ?_ | refine k2 ?_ | refine k3 ?_ | refine k4 ?_ | refine k6 ?_ | refine And.intro ?_ ?_ | (intro h; first | exact Bool.noConfusion h | exact nz _ h | exact nl h | (simp at h; done) | (simp at h; first | (exfalso; omega) | skip) | skip) | refine eqv_len_map ?_ | refine eqv_wrap (by omega) (by omega) ?_ | fail)
          · subst hR
            refine ⟨k + 1, ⟨by omega, by omega⟩, by omega, ?_⟩
            rw [hpn hg]
            exact back [0, 1, 2, 3] rfl rfl (by repeat' (first | exact trivial | exact rfl | refine kept_bx ren_bxY rfl ?_ | refine And.intro ?_ ?_)) (by repeat' (first | exact trivial | exact rfl | refine And.intro ?_ ?_))
          · refine ⟨k + 1, ⟨by omega, by omega⟩, by omega, ?_⟩
            rw [hpn hg]
            exact back [0, 1, 2, 3] rfl rfl (by repeat' (first | exact trivial | exact rfl | refine kept_ob rfl ?_ | refine kept_bx ren_bxY rfl ?_ | refine And.intro ?_ ?_)) (by repeat' (first | exact trivial | exact rfl | refine And.intro ?_ ?_))
          · subst hR
            refine ⟨k + 1, ⟨by omega, by omega⟩, by omega, ?_⟩
            rw [hpo hg, sl_app, ob_app]
            exact back [0, 1, 2, 5] rfl rfl (by repeat' (first | exact trivial | exact rfl | refine And.intro ?_ ?_)) (by repeat' (first | exact trivial | exact rfl | refine And.intro ?_ ?_))
          · refine ⟨k + 1, ⟨by omega, by omega⟩, by omega, ?_⟩
            rw [hpo hg, sl_app, ob_app]
            exact back [0, 1, 2, 4] rfl rfl (by repeat' (first | exact trivial | exact rfl | refine And.intro ?_ ?_)) (by repeat' (first | exact trivial | exact rfl | refine And.intro ?_ ?_))
        · obtain rfl : k = x.exams.length := by omega
          repeat' (first | (refine fh_ob ?_) | refine o1 ?_ | refine o2 ?_ | refine k1 ?_ | refine k2 ?_ | refine k3 ?_ | refine k8 ?_ | refine And.intro ?_ ?_ | (intro h; first | exact Bool.noConfusion h | exact nz _ h | exact nl h | (simp at h; done) | (simp at h; first | (exfalso; omega) | skip) | skip) | refine eqv_len_map ?_ | refine eqv_wrap (by omega) (by omega) ?_ | fail)
          refine ⟨i + 1, by omega, by omega, ?_⟩
          rw [← hSl, prsUk_all, hSl]
          exact back [0, 1, 2, 3] rfl rfl (by repeat' (first | exact trivial | exact rfl | refine kept_ob rfl ?_ | refine kept_bx ren_bxY rfl ?_ | refine And.intro ?_ ?_)) (by repeat' (first | exact trivial | exact rfl | refine And.intro ?_ ?_))
      · obtain rfl : i = x.exams.length := by omega
        repeat' (first | (refine fh_ob ?_) | refine o1 ?_ | refine o2 ?_ | refine k1 ?_ | refine k2 ?_ | refine k3 ?_ | refine k8 ?_ | refine And.intro ?_ ?_ | (intro h; first | exact Bool.noConfusion h | exact nz _ h | exact nl h | (simp at h; done) | (simp at h; first | (exfalso; omega) | skip) | skip) | refine eqv_wrap (by omega) (by omega) ?_ | fail)
        refine ⟨u + 1, by omega, by omega, ?_⟩
        rw [← hSl, prsUi_all, hSl]
        exact back [0, 1, 2, 3] rfl rfl (by repeat' (first | exact trivial | exact rfl | refine kept_ob rfl ?_ | refine kept_bx ren_bxY rfl ?_ | refine And.intro ?_ ?_)) (by repeat' (first | exact trivial | exact rfl | refine And.intro ?_ ?_))
    · obtain rfl : u = 7 := by omega
      have hpl : (prsU (setsX x) (entX x) 7).length ≤ 4000 := by omega
      refine forceH_in ?_
      generalize prsU (setsX x) (entX x) 7 = P0 at *
      refine ghost_seq (Γ' := [(1, .ptr 0 8 0 0), (2, .ptr 1 4 0 0), (3, vint .i64 0), (5, .ptr 2 13 0 0), (40, vint .i64 7)]) (H' := [some ⟨33, 8, false, .box (pvs x.cells)⟩, some ⟨51, 4, false, .box (pvs zeroM)⟩, some ⟨102, 13, false, .box (pvs x.cells ++ [.pv (.sl 1 ((setsX x).map seatsRow)), .pv (.sl 1 CR), .pv (.sl 4 (P0.map Pair.row)), nilA, vint .i64 7])⟩])
        (Ghost.shut_sl (i := 2) (c := 10) (id := 3) rfl rfl rfl (by decide) fun H' hl h2 hH => back [0, 1, 2] rfl rfl (And.intro (hH 0 (by decide) (by decide)) (And.intro (hH 1 (by decide) (by decide)) (And.intro h2 trivial))) (by repeat' (first | exact trivial | exact rfl | refine And.intro ?_ ?_))) ?_
      repeat' (first | refine o1 ?_ | refine o2 ?_ | refine k1 ?_ | refine k2 ?_ | refine k3 ?_ | refine k4 ?_ | refine k8 ?_ | refine And.intro ?_ ?_ | (intro h; first | exact Bool.noConfusion h | exact nz _ h | exact nl h | (simp at h; done) | (simp at h; first | (exfalso; omega) | skip) | skip) | refine eqv_len_map ?_ | fail)
      refine loop_for (fun a : Nat => [(1, .ptr 0 8 0 0), (2, .ptr 1 4 0 0), (3, vint .i64 0), (5, .ptr 2 13 0 0), (67, vint .i64 x.sits.length), (68, vint .i64 a)]) (fun a => [some ⟨33, 8, false, .box (pvs x.cells)⟩, some ⟨51, 4, false, .box (pvs zeroM)⟩, some ⟨102, 13, false, .box (pvs x.cells ++ [.pv (.sl 1 ((setsX x).map seatsRow)), .pv (.sl 1 CR), .pv (.sl 4 (P0.map Pair.row)), slP 3 4 ((cntS (setsX x) (wtX x) (mostX x) x.rooms.length a).map Count.row), vint .i64 7])⟩, obP 120 4 ((cntS (setsX x) (wtX x) (mostX x) x.rooms.length a).map Count.row)]) (fun a => a ≤ x.sits.length) (fun a => x.sits.length - a) 0 (Nat.zero_le _) ?_ ?_
      · exact back [0, 1, 2, 3] rfl rfl (by repeat' (first | exact trivial | exact rfl | refine kept_bx ren_bxZ rfl ?_ | refine And.intro ?_ ?_)) (by repeat' (first | exact trivial | exact rfl | refine And.intro ?_ ?_))
      intro a ha
      have hsn := hl.sits
      have hrn := hl.rooms
      have ln := cntS_len (S := setsX x) (W := wtX x) (most := mostX x) (R := x.rooms.length) (s := a)
      have lb : a * x.rooms.length ≤ 24 * 16 := Nat.mul_le_mul (by omega) hrn
      rcases Nat.lt_or_ge a x.sits.length with hal | hag
      · repeat' (first | (refine fh_ob ?_) | refine o1 ?_ | refine o2 ?_ | refine k1 ?_ | refine k2 ?_ | refine k3 ?_ | refine k4 ?_ | refine k6 ?_ | refine And.intro ?_ ?_ | (intro h; first | exact Bool.noConfusion h | exact nz _ h | exact nl h | (simp at h; done) | (simp at h; first | (exfalso; omega) | skip) | skip) | refine eqv_len_map ?_ | fail)
        refine loop_for (fun c : Nat => [(1, .ptr 0 8 0 0), (2, .ptr 1 4 0 0), (3, vint .i64 0), (5, .ptr 2 13 0 0), (67, vint .i64 x.sits.length), (68, vint .i64 a), (11, vint .i64 a), (73, vint .i64 x.rooms.length), (74, vint .i64 c)]) (fun c => [some ⟨33, 8, false, .box (pvs x.cells)⟩, some ⟨51, 4, false, .box (pvs zeroM)⟩, some ⟨102, 13, false, .box (pvs x.cells ++ [.pv (.sl 1 ((setsX x).map seatsRow)), .pv (.sl 1 CR), .pv (.sl 4 (P0.map Pair.row)), slP 3 4 ((cntS (setsX x) (wtX x) (mostX x) x.rooms.length a ++ cntI (setsX x) (wtX x) (mostX x) a c).map Count.row), vint .i64 7])⟩, obP 120 4 ((cntS (setsX x) (wtX x) (mostX x) x.rooms.length a ++ cntI (setsX x) (wtX x) (mostX x) a c).map Count.row)]) (fun c => c ≤ x.rooms.length) (fun c => x.rooms.length - c) 0 (Nat.zero_le _) ?_ ?_
        · rw [show cntI (setsX x) (wtX x) (mostX x) a 0 = [] from rfl, List.append_nil]
          exact back [0, 1, 2, 3] rfl rfl (by repeat' (first | exact trivial | exact rfl | refine kept_ob rfl ?_ | refine kept_bx ren_bxZ rfl ?_ | refine And.intro ?_ ?_)) (by repeat' (first | exact trivial | exact rfl | refine And.intro ?_ ?_))
        intro c hc
        have li := cntI_len (S := setsX x) (W := wtX x) (most := mostX x) (s := a) (m := c)
        have lt2 : (cntS (setsX x) (wtX x) (mostX x) x.rooms.length a ++ cntI (setsX x) (wtX x) (mostX x) a c).length ≤ 1000 := by rw [List.length_append]; omega
        rcases Nat.lt_or_ge c x.rooms.length with hcl | hcg
        · have hct := c_count x (.sl 1 CR) (.sl 4 (P0.map Pair.row)) ((cntS (setsX x) (wtX x) (mostX x) x.rooms.length a ++ cntI (setsX x) (wtX x) (mostX x) a c).map Count.row) a c hl hcl (fun A hA => by
            obtain ⟨i, hi⟩ := List.getElem?_of_mem hA
            obtain ⟨e, -, h, -⟩ := hSat i A hi
            exact h) (by omega) (by rw [List.length_map]; omega)
          have hco : decide (1 < (loadsS (setsX x) (wtX x) a c (setsX x).length).length) = true → (cntS (setsX x) (wtX x) (mostX x) x.rooms.length a ++ cntI (setsX x) (wtX x) (mostX x) a (c + 1)).map Count.row = (cntS (setsX x) (wtX x) (mostX x) x.rooms.length a ++ cntI (setsX x) (wtX x) (mostX x) a c).map Count.row ++ [Count.row ⟨1, loadsS (setsX x) (wtX x) a c (setsX x).length, mostX x c, 1099511627776⟩] := fun h => by
            rw [cntI_some (show countS (setsX x) (wtX x) (mostX x) a c = some _ from if_pos (by simpa using h)), ← List.append_assoc, map_snoc]
          have hcn : decide (1 < (loadsS (setsX x) (wtX x) a c (setsX x).length).length) = false → (cntS (setsX x) (wtX x) (mostX x) x.rooms.length a ++ cntI (setsX x) (wtX x) (mostX x) a (c + 1)).map Count.row = (cntS (setsX x) (wtX x) (mostX x) x.rooms.length a ++ cntI (setsX x) (wtX x) (mostX x) a c).map Count.row := fun h => by
            rw [cntI_none (show countS (setsX x) (wtX x) (mostX x) a c = none from if_neg (by simpa using h))]
          rw [sl_app, ob_app] at hct
          have hct : ACall Tryz.prog 48 [.ptr 0 13 0 0, ag (Seat.row ⟨a, c⟩)] _ (fun r H' => r = .tup [] ∧ H' = if decide (1 < (loadsS (setsX x) (wtX x) a c (setsX x).length).length) = true then _ else _) := ACall.mono hct fun r H' h => ⟨h.1, h.2.trans (by simp only [decide_eq_true_eq]; rfl)⟩
          generalize loadsS (setsX x) (wtX x) a c (setsX x).length = LL at *
          generalize decide (1 < LL.length) = g at *
          generalize (cntS (setsX x) (wtX x) (mostX x) x.rooms.length a ++ cntI (setsX x) (wtX x) (mostX x) a c).map Count.row = NR at *
          repeat' (first | (refine fh_ob ?_) | ((change vcFun _ _ _ _ _; refine call_grow (ps := x.cells ++ [.sl 1 ((setsX x).map seatsRow), .sl 1 CR, .sl 4 (P0.map Pair.row)]) (qs := [ei 7]) (R := NR) (rest := [ag (Seat.row ⟨a, c⟩)]) (v := .tup []) (fun _ _ => rfl) (fun _ _ => rfl) hct (fun hg hR => ?_) (fun hg => ?_) (fun hg hR => ?_) (fun hg => ?_))) | refine o1 ?_ | refine o2 ?_ | refine k1 ?_ | refine k2 ?_ | refine k3 ?_ | refine k4 ?_ | refine k6 ?_ | refine And.intro ?_ ?_ | (intro h; first | exact Bool.noConfusion h | exact nz _ h | exact nl h | (simp at h; done) | (simp at h; first | (exfalso; omega) | skip) | skip) | refine eqv_wrap (by omega) (by omega) ?_ | fail)
          · subst hR
            refine ⟨c + 1, by omega, by omega, ?_⟩
            rw [hcn hg]
            exact back [0, 1, 2, 3] rfl rfl (by repeat' (first | exact trivial | exact rfl | refine kept_bx ren_bxZ rfl ?_ | refine And.intro ?_ ?_)) (by repeat' (first | exact trivial | exact rfl | refine And.intro ?_ ?_))
          · refine ⟨c + 1, by omega, by omega, ?_⟩
            rw [hcn hg]
            exact back [0, 1, 2, 3] rfl rfl (by repeat' (first | exact trivial | exact rfl | refine kept_ob rfl ?_ | refine kept_bx ren_bxZ rfl ?_ | refine And.intro ?_ ?_)) (by repeat' (first | exact trivial | exact rfl | refine And.intro ?_ ?_))
          · subst hR
            refine ⟨c + 1, by omega, by omega, ?_⟩
            rw [hco hg, sl_app, ob_app]
            exact back [0, 1, 2, 5] rfl rfl (by repeat' (first | exact trivial | exact rfl | refine And.intro ?_ ?_)) (by repeat' (first | exact trivial | exact rfl | refine And.intro ?_ ?_))
          · refine ⟨c + 1, by omega, by omega, ?_⟩
            rw [hco hg, sl_app, ob_app]
            exact back [0, 1, 2, 4] rfl rfl (by repeat' (first | exact trivial | exact rfl | refine And.intro ?_ ?_)) (by repeat' (first | exact trivial | exact rfl | refine And.intro ?_ ?_))
        · obtain rfl : c = x.rooms.length := by omega
          repeat' (first | (refine fh_ob ?_) | refine o1 ?_ | refine o2 ?_ | refine k1 ?_ | refine k2 ?_ | refine k3 ?_ | refine k8 ?_ | refine And.intro ?_ ?_ | (intro h; first | exact Bool.noConfusion h | exact nz _ h | exact nl h | (simp at h; done) | (simp at h; first | (exfalso; omega) | skip) | skip) | refine eqv_wrap (by omega) (by omega) ?_ | fail)
          refine ⟨a + 1, by omega, by omega, ?_⟩
          rw [show cntS (setsX x) (wtX x) (mostX x) x.rooms.length (a + 1) = cntS (setsX x) (wtX x) (mostX x) x.rooms.length a ++ cntI (setsX x) (wtX x) (mostX x) a x.rooms.length from gr_succ]
          exact back [0, 1, 2, 3] rfl rfl (by repeat' (first | exact trivial | exact rfl | refine kept_ob rfl ?_ | refine kept_bx ren_bxZ rfl ?_ | refine And.intro ?_ ?_)) (by repeat' (first | exact trivial | exact rfl | refine And.intro ?_ ?_))
      · obtain rfl : a = x.sits.length := by omega
        have hnl : (cntS (setsX x) (wtX x) (mostX x) x.rooms.length x.sits.length).length ≤ 800 := by omega
        generalize cntS (setsX x) (wtX x) (mostX x) x.rooms.length x.sits.length = N0 at *
        refine forceH_in ?_
        refine ghost_seq (Γ' := [(1, .ptr 0 8 0 0), (2, .ptr 1 4 0 0), (3, vint .i64 0), (5, .ptr 2 13 0 0), (67, vint .i64 x.sits.length), (68, vint .i64 x.sits.length)]) (H' := [some ⟨33, 8, false, .box (pvs x.cells)⟩, some ⟨51, 4, false, .box (pvs zeroM)⟩, some ⟨102, 13, false, .box (pvs x.cells ++ [.pv (.sl 1 ((setsX x).map seatsRow)), .pv (.sl 1 CR), .pv (.sl 4 (P0.map Pair.row)), .pv (.sl 4 (N0.map Count.row)), vint .i64 7])⟩])
          (Ghost.shut_sl (i := 2) (c := 11) (id := 3) rfl rfl rfl (by decide) fun H' hl h2 hH => back [0, 1, 2] rfl rfl (And.intro (hH 0 (by decide) (by decide)) (And.intro (hH 1 (by decide) (by decide)) (And.intro h2 trivial))) (by repeat' (first | exact trivial | exact rfl | refine And.intro ?_ ?_))) ?_
        repeat' (first | refine o1 ?_ | refine o2 ?_ | refine k1 ?_ | refine k2 ?_ | refine k3 ?_ | refine k6 ?_ | refine k7 ?_ | refine k8 ?_ | refine And.intro ?_ ?_ | (intro h; first | exact Bool.noConfusion h | exact nz _ h | exact nl h | (simp at h; done) | (simp at h; first | (exfalso; omega) | skip) | skip) | refine eqv_len_map ?_ | fail)
        all_goals
          change retOk _ _ _ _; refine ret_pure rfl (by repeat' (first | exact True.intro | refine And.intro ?_ ?_)) ?_
          exact ⟨ALe.tup ⟨ALe.agg ⟨ALe.pv (PLe.sl hle), ALe.refl, ALe.refl, ALe.refl, trivial⟩, ALe.refl, trivial⟩⟩
theorem c_build1 (x : Exams) (h : ¬ examsE x = 0) : PCall Tryz.prog 20 [ag x.cells] (fun a => Leq a (.tup [ag (buildM x).cells, vint .i64 (buildE x)])) := by
  have h1 := c_exams x
  have e1 : buildE x = examsE x := by unfold buildE; rw [if_pos h]
  have e2 : buildM x = ⟨[], [], [], 0⟩ := by unfold buildM; rw [e1]; exact if_neg h
  rw [e1, e2]
  generalize examsE x = E at *
  refine acall_of tok mixed 105 rfl (fn := Tryz.f20) (c := Tryz.f20.body.getD .skip) (by kernel_rfl) (by kernel_rfl) (by kernel_rfl) rfl 0 rfl ?_
  repeat' (first | refine o1 ?_ | refine o2 ?_ | refine k1 ?_ | refine k2 ?_ | refine k3 ?_ | refine k7 ?_ | refine And.intro ?_ ?_ | (intro h; first | exact Bool.noConfusion h | exact nz _ h | exact nl h | (simp at h; done) | (simp at h; first | (exfalso; omega) | skip) | skip) | exact (by kernel_rfl : drawOk _ _ = true) | (change vcFun _ _ _ _ _; refine call_eq rfl (by repeat' (first | trivial | refine And.intro ?_ ?_ | (show 0 + _ ≤ List.length _; simp))) ALeL.refl (h1) rfl ?_) | fail)
  all_goals first
    | (exfalso; omega)
    | (change retOk _ _ _ _; refine ret_pure rfl (by repeat' (first | exact True.intro | refine And.intro ?_ ?_)) ?_
       exact ⟨ALe.tup ⟨ALe.agg le_zeroM, ALe.refl, trivial⟩⟩)
end Go.Proofs.YtpnghlibmpainaaGreat.Cw
