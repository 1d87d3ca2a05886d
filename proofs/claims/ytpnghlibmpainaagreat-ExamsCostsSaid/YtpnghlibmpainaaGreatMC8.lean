/-
  Part 8 of the proof (X5, X6, XN, X7, X8, X10, X10b, X11, X12, X4, D4, D3): what later parts use. No conditions.
-/
import Derived.Test.YtpnghlibmpainaaGreatMC7

/-
  Contracts: what two exams cost beside each other; the reference's seats.
-/
namespace Go.Proofs.YtpnghlibmpainaaGreat.Cw
open Go.Cw Go.Proofs
set_option linter.unusedVariables false
set_option maxRecDepth 100000
set_option maxHeartbeats 8000000

/-- What the checks say of lengths. -/
structure LensX (x : Exams) : Prop where
  rooms : x.rooms.length ≤ 16
  room : ∀ r ∈ x.rooms, r.feats.length ≤ 8 ∧ r.closed.length ≤ 24 ∧ 0 ≤ r.seats ∧ r.seats ≤ 1048576
  exam : ∀ e ∈ x.exams, e.feats.length ≤ 8 ∧ 1 ≤ e.studs.length ∧ e.studs.length ≤ 64
  sits : x.sits.length ≤ 24
  cost : ∀ s ∈ x.sits, 0 ≤ s.cost ∧ s.cost ≤ 1000
end Go.Proofs.YtpnghlibmpainaaGreat.Cw

/-
  Contracts: what two exams cost beside each other, by the builder.
-/
namespace Go.Proofs.YtpnghlibmpainaaGreat.Cw
open Go.Cw Go.Proofs
set_option linter.unusedVariables false
set_option maxRecDepth 100000
set_option maxHeartbeats 8000000

/-- The builder: examinations, seats, a model. -/
def bldC (x : Exams) (q8 q9 q10 q11 : PV) : List PV := x.cells ++ [q8, q9, q10, q11, ei 7]
theorem c_entry (x : Exams) (q8 q9 q10 q11 : PV) (u i k : Nat) (a b : Seat) (s t : Sitting) (e f : Exam) (h0 : examsE x = 0) (h1 : x.sits[a.sit]? = some s) (h2 : x.sits[b.sit]? = some t) (h3 : x.exams[i]? = some e) (h4 : x.exams[k]? = some f) :
    PCall Tryz.prog 91 [.pv (.ia (bldC x q8 q9 q10 q11)), vint .i64 u, vint .i64 i, vint .i64 k, ag a.row, ag b.row] (fun r => r = vint .i64 (entC x u a b s t e f)) := by
  have hf := fine_of h0
  have he := (hf.el _ _ h3).1
  have hff := (hf.el _ _ h4).1
  have c1 := c_common x i k e f hf h3 h4
  have c2 := c_relation x a.sit b.sit s t hf h1 h2
  obtain ⟨g1, g2, g3, g4⟩ := gaps_ok h0
  have hn := comN_len (a := e.studs) (b := f.studs)
  unfold entC
  generalize comN e.studs f.studs = n at *
  generalize relE x a.sit b.sit s t = R at *
  have p1 : 0 ≤ (n : Int) * x.gaps.row ∧ (n : Int) * x.gaps.row ≤ 64 * 1000 := ⟨Int.mul_nonneg (by omega) g1.1, Int.mul_le_mul (by omega) g1.2 g1.1 (by decide)⟩
  have p2 : 0 ≤ (n : Int) * x.gaps.day ∧ (n : Int) * x.gaps.day ≤ 64 * 1000 := ⟨Int.mul_nonneg (by omega) g2.1, Int.mul_le_mul (by omega) g2.2 g2.1 (by decide)⟩
  have p3 : 0 ≤ (n : Int) * x.gaps.near ∧ (n : Int) * x.gaps.near ≤ 64 * 1000 := ⟨Int.mul_nonneg (by omega) g3.1, Int.mul_le_mul (by omega) g3.2 g3.1 (by decide)⟩
  refine acall_of tok mixed 117 rfl (fn := Tryz.f91) (c := Tryz.f91.body.getD .skip) (by kernel_rfl) (by kernel_rfl) (by kernel_rfl) rfl 0 rfl ?_
  repeat' (first | (refine idx_sl (k := i) (at_map h3) rfl ?_) | (refine idx_sl (k := k) (at_map h4) rfl ?_) | refine o1 ?_ | refine o2 ?_ | refine k1 ?_ | refine k2 ?_ | refine k3 ?_ | refine k4 ?_ | refine k6 ?_ | refine k7 ?_ | refine And.intro ?_ ?_ | refine o3 ?_ | refine o4 ?_ | (intro h; first | exact Bool.noConfusion h | exact nz _ h | exact nl h | (simp at h; done) | (simp at h; first | (exfalso; omega) | skip) | skip) | (change retOk _ _ _ _; refine ret_pure rfl trivial ?_) | exact (by kernel_rfl : drawOk _ _ = true) | refine eqv_wrap (by omega) (by omega) ?_ | (change vcFun _ _ _ _ _; refine call_eq rfl (by repeat' (first | trivial | refine And.intro ?_ ?_ | (show 0 + _ ≤ List.length _; simp))) ALeL.refl (c1) rfl ?_) | (change vcFun _ _ _ _ _; refine call_eq rfl (by repeat' (first | trivial | refine And.intro ?_ ?_ | (show 0 + _ ≤ List.length _; simp))) ALeL.refl (c2) rfl ?_) | fail)
  all_goals clear c1 c2
  all_goals
    refine congrArg (vint .i64) ?_
    (repeat' split) <;> first | rfl | (exfalso; omega) | omega | skip
end Go.Proofs.YtpnghlibmpainaaGreat.Cw

/-
  A call whose contract names places where no object is.
-/
namespace Go.Cw
set_option linter.unusedVariables false

theorem ACall.none1 {P : Program} {f : FuncId} {args : List AV} {H : Heap} {Post : AV → Heap → Prop} (h : ACall P f args (H ++ [none]) Post) : ACall P f args H Post := by
  refine ⟨h.1, fun I β w vs hH hs ha => ?_⟩
  have hb : ∀ (i : Nat) b, β[i]? = some (some b) → (β ++ [none])[i]? = some (some b) := fun i b hi => by
    rw [List.getElem?_append_left (List.getElem?_eq_some_iff.1 hi).1]; exact hi
  have hb2 : ∀ (i : Nat) b, (β ++ [none])[i]? = some (some b) → β[i]? = some (some b) := fun i b hi => by
    rcases Nat.lt_or_ge i β.length with hlt | hge
    · rwa [List.getElem?_append_left hlt] at hi
    · rw [List.getElem?_append_right hge] at hi
      cases hd : i - β.length with
      | zero => rw [hd] at hi; simp at hi
      | succ n => rw [hd] at hi; simp at hi
  have hh2 : ∀ (i : Nat) o, (H ++ [none])[i]? = some (some o) → H[i]? = some (some o) := fun i b hi => by
    rcases Nat.lt_or_ge i H.length with hlt | hge
    · rwa [List.getElem?_append_left hlt] at hi
    · rw [List.getElem?_append_right hge] at hi
      cases hd : i - H.length with
      | zero => rw [hd] at hi; simp at hi
      | succ n => rw [hd] at hi; simp at hi
  have hH2 : HSim I (β ++ [none]) (H ++ [none]) w := ⟨by simp [hH.len], fun i o ho => by
    obtain ⟨b, h1, h2⟩ := hH.obj i o (hh2 i o ho)
    exact ⟨b, hb i b h1, h2.mono (fun b hb => ⟨rfl, hb⟩) hb (fun _ _ _ h => h) rfl fun h => h⟩, fun i j oi oj b b' h1 h2 h3 h4 => hH.inj i j oi oj b b' (hh2 i oi h1) (hh2 j oj h2) (hb2 i b h3) (hb2 j b' h4), hH.imm, fun i b hi => hH.lt i b (hb2 i b hi)⟩
  refine (h.2 I (β ++ [none]) w vs hH2 hs fun j c hc => (ha j c hc).mono (fun b hb => ⟨rfl, hb⟩) hb (fun _ _ _ h => h)).mono ?_
  rintro e w' ⟨r, H', I', β', v, e1, h1, h2, h3, h4⟩
  exact ⟨r, H', I', β', v, e1, h1, h2, h3, ⟨h4.os, h4.tape, h4.output, h4.size, fun i b hi => h4.pre i b (hb i b hi), fun i b hi => (h4.fresh i b hi).imp id fun ⟨j, b0, g1, g2⟩ => ⟨j, b0, hb2 j b0 g1, g2⟩, fun b hlt hne => h4.keep b hlt fun i c hc => hne i c (hb2 i c hc), h4.keepI, fun b hlt hI => (h4.old b hlt hI).imp id fun ⟨i, c, g1, g2⟩ => ⟨i, c, hb2 i c g1, g2⟩, h4.shape, h4.drawn⟩⟩
end Go.Cw

/-
  Contracts: the options of an exam, by the builder.
-/
namespace Go.Proofs.YtpnghlibmpainaaGreat.Cw
open Go Go.Cw Go.Proofs
set_option linter.unusedVariables false
set_option maxRecDepth 100000
set_option maxHeartbeats 20000000

noncomputable def rowsO (x : Exams) (L : List Seat) : List (List PV) := L.map fun q => optB (optS x q)
def rowsS (L : List Seat) : List (List PV) := L.map Seat.row
def bxO (x : Exams) (S C P N : AV) : Option AObj := some ⟨102, 13, false, .box (pvs x.cells ++ [S, C, P, N, vint .i64 7])⟩
theorem rowsO_snoc {x : Exams} {L : List Seat} {q : Seat} : rowsO x (L ++ [q]) = rowsO x L ++ [optB (optS x q)] := by unfold rowsO; simp
theorem rowsS_snoc {L : List Seat} {q : Seat} : rowsS (L ++ [q]) = rowsS L ++ [q.row] := by unfold rowsS; simp
theorem rowsO_len {x : Exams} {L : List Seat} : (rowsO x L).length = L.length := List.length_map _
theorem rowsS_len {L : List Seat} : (rowsS L).length = L.length := List.length_map _
theorem optB_at {x : Exams} {i r : Nat} {s : Sitting} (hs : x.sits[i]? = some s) : optB (optS x ⟨i, r⟩) = [ei (timeOf s).weeks, ei (timeOf s).day, ei (timeOf s).start, ei (timeOf s).len, ei r, if 0 < s.cost then .sl 2 [[ei 5, ei s.cost]] else .val (.slice none 0 0)] := by
  unfold optS
  dsimp only
  rw [hs]
  unfold optB
  dsimp only
  by_cases h : 0 < s.cost
  · rw [if_pos h, if_pos h]; rfl
  · rw [if_neg h, if_neg h]
theorem ren_bxO {d i j z z2 : Nat} {rn : List Nat} {r r2 : List (List PV)} {p0 p1 p2 p3 p4 p5 p6 p7 p8 p9 p10 : PV} : renL d rn [.pv p0, .pv p1, .pv p2, .pv p3, .pv p4, .pv p5, .pv p6, .pv p7, slP i z r, slP j z2 r2, .pv p8, .pv p9, .pv p10] = [.pv p0, .pv p1, .pv p2, .pv p3, .pv p4, .pv p5, .pv p6, .pv p7, slP (rn.getD i d) z r, slP (rn.getD j d) z2 r2, .pv p8, .pv p9, .pv p10] := by simp [renL, renC, ren_sl]
theorem c_options (x : Exams) (e : Exam) (SR CR : List (List PV)) (hl : LensX x) (he : e.feats.length ≤ 8) (hSR : SR.length ≤ 100) (hCR : CR.length ≤ 100) :
    ACall Tryz.prog 46 [.ptr 0 13 0 0, ag e.row] [bxO x (slP 1 1 SR) (slP 2 1 CR) nilA nilA, obP 155 1 SR, obP 73 1 CR]
      (fun r H' => r = vbool (decide ((seatsV x e).length ≤ 24)) ∧ H' = [bxO x (slP 3 1 (SR ++ [seatsRow (seatsV x e)])) (slP 4 1 (CR ++ [[.sl 6 (rowsO x (seatsV x e))]])) nilA nilA, none, none, obP 155 1 (SR ++ [seatsRow (seatsV x e)]), obP 73 1 (CR ++ [[.sl 6 (rowsO x (seatsV x e))]])]) := by
  obtain ⟨hr, hrm, hex, hsn, -⟩ := hl
  have hI : ∀ i, (seatsI x e i).length ≤ 16 := fun i => by
    unfold seatsI
    split
    · exact Nat.le_trans upto_len hr
    · exact Nat.zero_le _
  have hG := gr_len hI
  unfold seatsV bxO
  refine acall_of tok mixed 106 rfl (fn := Tryz.f46) (c := Tryz.f46.body.getD .skip) (by kernel_rfl) (by kernel_rfl) (by kernel_rfl) rfl 3 rfl ?_
  repeat' (first | (refine fh_ob ?_) | refine o1 ?_ | refine o2 ?_ | refine k1 ?_ | refine k2 ?_ | refine k4 ?_ | refine eqv_len_map ?_ | fail)
  refine loop_for (fun i : Nat => [(0, .ptr 0 13 0 0), (3, .ptr 3 4 0 0), (5, slP 4 6 (rowsO x (gr (seatsI x e) i))), (6, slP 5 2 (rowsS (gr (seatsI x e) i))), (17, .pv (.sl 4 (x.sits.map Sitting.row))), (18, vint .i64 x.sits.length), (19, vint .i64 i)])
    (fun i => [some ⟨102, 13, false, .box (pvs x.cells ++ [slP 1 1 SR, slP 2 1 CR, nilA, nilA, vint .i64 7])⟩, obP 155 1 SR, obP 73 1 CR, some ⟨69, 4, false, .box (pvs e.row)⟩, obP 76 6 (rowsO x (gr (seatsI x e) i)), obP 107 2 (rowsS (gr (seatsI x e) i))]) (fun i => i ≤ x.sits.length) (fun i => x.sits.length - i) 0 (Nat.zero_le _) ?_ ?_
  · exact back [0, 1, 2, 3, 4, 5] rfl rfl (by repeat' (first | exact trivial | exact rfl | refine kept_ob rfl ?_ | refine kept_bx ren_bxO rfl ?_ | refine And.intro ?_ ?_)) (by repeat' (first | exact trivial | exact rfl | refine And.intro ?_ ?_))
  intro i hi
  have hGi := hG i
  rcases Nat.lt_or_ge i x.sits.length with hlt | hge
  · obtain ⟨s, hs⟩ := getE hlt
    have hsi : seatsI x e i = upto x.rooms (seatF e i s) x.rooms.length := by unfold seatsI; rw [hs]
    have hnx := gr_succ (F := seatsI x e) (i := i)
    rw [hsi] at hnx
    generalize gr (seatsI x e) i = G at *
    repeat' (first | (refine fh_ob ?_) | refine o1 ?_ | refine o2 ?_ | refine k1 ?_ | refine k2 ?_ | refine k3 ?_ | refine k4 ?_ | refine k6 ?_ | refine And.intro ?_ ?_ | (intro h; first | exact Bool.noConfusion h | exact nz _ h | exact nl h | (simp at h; done) | (simp at h; first | (exfalso; omega) | skip) | skip) | exact (by kernel_rfl : drawOk _ _ = true) | refine eqv_len_map ?_ | refine ⟨_, _, (by first | rfl | assumption), at_map (by assumption), ?_⟩ | fail)
    refine loop_for (fun r : Nat => [(0, .ptr 0 13 0 0), (3, .ptr 3 4 0 0), (5, slP 4 6 (rowsO x (G ++ upto x.rooms (seatF e i s) r))), (6, slP 5 2 (rowsS (G ++ upto x.rooms (seatF e i s) r))), (17, .pv (.sl 4 (x.sits.map Sitting.row))), (18, vint .i64 x.sits.length), (19, vint .i64 i), (7, vint .i64 i), (8, .ptr 6 4 0 0), (29, .pv (encRooms x.rooms)), (30, vint .i64 x.rooms.length), (31, vint .i64 r)]) (fun r => [some ⟨102, 13, false, .box (pvs x.cells ++ [slP 1 1 SR, slP 2 1 CR, nilA, nilA, vint .i64 7])⟩, obP 155 1 SR, obP 73 1 CR, some ⟨69, 4, false, .box (pvs e.row)⟩, obP 76 6 (rowsO x (G ++ upto x.rooms (seatF e i s) r)), obP 107 2 (rowsS (G ++ upto x.rooms (seatF e i s) r)), some ⟨23, 4, false, .box (pvs s.row)⟩]) (fun r => r ≤ x.rooms.length) (fun r => x.rooms.length - r) 0 (Nat.zero_le _) ?_ ?_
    · rw [upto_zero, List.append_nil]
      exact back [0, 1, 2, 3, 4, 5, 6] rfl rfl (by repeat' (first | exact trivial | exact rfl | refine kept_ob rfl ?_ | refine kept_bx ren_bxO rfl ?_ | refine And.intro ?_ ?_)) (by repeat' (first | exact trivial | exact rfl | exact ren_get rfl | refine And.intro ?_ ?_))
    intro r hr2
    have hul := upto_len (l := x.rooms) (f := seatF e i s) (n := r)
    rcases Nat.lt_or_ge r x.rooms.length with hrl | hrg
    · obtain ⟨q, hq⟩ := getE hrl
      have hqm := hrm q (List.mem_of_getElem? hq)
      have c1 := c_fitx q e (by omega) (by omega)
      have c2 := c_time s
      have c3 := c_open q (timeOf s) (by omega)
      have hS := fun (h : suitP e q s) => show G ++ upto x.rooms (seatF e i s) (r + 1) = (G ++ upto x.rooms (seatF e i s) r) ++ [⟨i, r⟩] by rw [upto_some (f := seatF e i s) hq (show seatF e i s r q = some ⟨i, r⟩ from if_pos (pB_t h)), List.append_assoc]
      have hN := fun (h : ¬ suitP e q s) => show G ++ upto x.rooms (seatF e i s) (r + 1) = G ++ upto x.rooms (seatF e i s) r by rw [upto_none (f := seatF e i s) hq (show seatF e i s r q = none from if_neg (by rw [pB_f h]; simp))]
      have hlen : (G ++ upto x.rooms (seatF e i s) r).length ≤ 1000 := by rw [List.length_append]; omega
      generalize G ++ upto x.rooms (seatF e i s) r = U at *
      by_cases hsu : suitP e q s
      · have hU := hS hsu
        obtain ⟨su1, su2, su3⟩ := hsu
        rw [pB_t su2] at c1
        rw [pB_t su3] at c3
        have hop := optB_at (r := r) hs
        by_cases hco : 0 < s.cost
        · rw [if_pos hco] at hop
          repeat' (first | (refine join_in (a := .seq (.region 11 _ _) _) (fun _ : Unit => []) (fun _ => [some ⟨102, 13, false, .box (pvs x.cells ++ [slP 1 1 SR, slP 2 1 CR, nilA, nilA, vint .i64 7])⟩, obP 155 1 SR, obP 73 1 CR, some ⟨69, 4, false, .box (pvs e.row)⟩, obP 76 6 (rowsO x U), obP 107 2 (rowsS U), some ⟨23, 4, false, .box (pvs s.row)⟩, some ⟨72, 5, false, .box (pvs q.row)⟩, some ⟨76, 6, false, .box [.pv (ei (timeOf s).weeks), .pv (ei (timeOf s).day), .pv (ei (timeOf s).start), .pv (ei (timeOf s).len), .pv (ei r), .pv (.sl 2 [[ei 5, ei s.cost]])]⟩]) (fun _ => True) ⟨?_, ?_⟩) | (refine fh_ob ?_) | refine o1 ?_ | refine o2 ?_ | refine k1 ?_ | refine k2 ?_ | refine k3 ?_ | refine k4 ?_ | refine k6 ?_ | refine And.intro ?_ ?_ | refine o3 ?_ | refine o4 ?_ | (intro h; first | exact Bool.noConfusion h | exact nz _ h | exact nl h | (simp at h; done) | (simp at h; first | (exfalso; omega) | skip) | skip) | exact (by kernel_rfl : drawOk _ _ = true) | refine ⟨_, _, (by first | rfl | assumption), at_map (by assumption), ?_⟩ | (change vcFunD _ _ _ _ _; refine callD_eq rfl (by repeat' (first | trivial | refine And.intro ?_ ?_ | (show 0 + _ ≤ List.length _; simp))) ALeL.refl (c1) rfl ?_) | (change vcFun _ _ _ _ _; refine call_eq rfl (by repeat' (first | trivial | refine And.intro ?_ ?_ | (show 0 + _ ≤ List.length _; simp))) ALeL.refl (c2) rfl ?_) | (change vcFunD _ _ _ _ _; refine callD_eq rfl (by repeat' (first | trivial | refine And.intro ?_ ?_ | (show 0 + _ ≤ List.length _; simp))) ALeL.refl (c2) rfl ?_) | (change vcFunD _ _ _ _ _; refine callD_eq rfl (by repeat' (first | trivial | refine And.intro ?_ ?_ | (show 0 + _ ≤ List.length _; simp))) ALeL.refl (c3) rfl ?_) | fail)
          · exact ⟨(), True.intro, Ghost.shut_sl (i := 8) (c := 5) (id := 9) (ty := 114) (rows := [[ei 5, ei s.cost]]) rfl rfl rfl (by decide) fun H' hl h2 hH => back [0, 1, 2, 3, 4, 5, 6, 7, 8] rfl rfl (kept_bx ren_bxO (hH 0 (by decide) (by decide)) (kept_ob (hH 1 (by decide) (by decide)) (kept_ob (hH 2 (by decide) (by decide)) (And.intro (hH 3 (by decide) (by decide)) (kept_ob (hH 4 (by decide) (by decide)) (kept_ob (hH 5 (by decide) (by decide)) (And.intro (hH 6 (by decide) (by decide)) (And.intro (hH 7 (by decide) (by decide)) (And.intro h2 trivial))))))))) (by repeat' (first | exact trivial | exact rfl | exact ren_get rfl | refine And.intro ?_ ?_))⟩
          refine ⟨fun _ _ => ?_⟩
          repeat' (first | (refine fv_sl ?_) | (refine fh_ob ?_) | ((refine o_app rfl rfl rfl rfl rfl rfl rfl rfl rfl rfl rfl (by rw [rowsO_len]; omega) (by rw [rowsO_len]; omega) ?_)) | ((refine o_app rfl rfl rfl rfl rfl rfl rfl rfl rfl rfl rfl (by rw [rowsS_len]; omega) (by rw [rowsS_len]; omega) ?_)) | refine o1 ?_ | refine o2 ?_ | refine k2 ?_ | refine eqv_wrap (by omega) (by omega) ?_ | fail)
          refine ⟨r + 1, by omega, by omega, ?_⟩
          rw [hU, rowsO_snoc, rowsS_snoc, hop, sl_app, ob_app, sl_app, ob_app]
          exact back [0, 1, 2, 3, 10, 12, 6] rfl rfl (by repeat' (first | exact trivial | exact rfl | refine kept_ob rfl ?_ | refine kept_bx ren_bxO rfl ?_ | refine And.intro ?_ ?_)) (by repeat' (first | exact trivial | exact rfl | refine And.intro ?_ ?_))
        · rw [if_neg hco] at hop
          repeat' (first | (refine fv_sl ?_) | (refine fh_ob ?_) | ((refine o_app rfl rfl rfl rfl rfl rfl rfl rfl rfl rfl rfl (by rw [rowsO_len]; omega) (by rw [rowsO_len]; omega) ?_)) | ((refine o_app rfl rfl rfl rfl rfl rfl rfl rfl rfl rfl rfl (by rw [rowsS_len]; omega) (by rw [rowsS_len]; omega) ?_)) | refine o1 ?_ | refine o2 ?_ | refine k1 ?_ | refine k2 ?_ | refine k3 ?_ | refine k4 ?_ | refine k6 ?_ | refine And.intro ?_ ?_ | refine o3 ?_ | refine o4 ?_ | (intro h; first | exact Bool.noConfusion h | exact nz _ h | exact nl h | (simp at h; done) | (simp at h; first | (exfalso; omega) | skip) | skip) | exact (by kernel_rfl : drawOk _ _ = true) | refine eqv_wrap (by omega) (by omega) ?_ | refine ⟨_, _, (by first | rfl | assumption), at_map (by assumption), ?_⟩ | (change vcFunD _ _ _ _ _; refine callD_eq rfl (by repeat' (first | trivial | refine And.intro ?_ ?_ | (show 0 + _ ≤ List.length _; simp))) ALeL.refl (c1) rfl ?_) | (change vcFun _ _ _ _ _; refine call_eq rfl (by repeat' (first | trivial | refine And.intro ?_ ?_ | (show 0 + _ ≤ List.length _; simp))) ALeL.refl (c2) rfl ?_) | (change vcFunD _ _ _ _ _; refine callD_eq rfl (by repeat' (first | trivial | refine And.intro ?_ ?_ | (show 0 + _ ≤ List.length _; simp))) ALeL.refl (c2) rfl ?_) | (change vcFunD _ _ _ _ _; refine callD_eq rfl (by repeat' (first | trivial | refine And.intro ?_ ?_ | (show 0 + _ ≤ List.length _; simp))) ALeL.refl (c3) rfl ?_) | fail)
          refine ⟨r + 1, by omega, by omega, ?_⟩
          rw [hU, rowsO_snoc, rowsS_snoc, hop, sl_app, ob_app, sl_app, ob_app]
          exact back [0, 1, 2, 3, 10, 12, 6] rfl rfl (by repeat' (first | exact trivial | exact rfl | refine kept_ob rfl ?_ | refine kept_bx ren_bxO rfl ?_ | refine And.intro ?_ ?_)) (by repeat' (first | exact trivial | exact rfl | refine And.intro ?_ ?_))
      · have hU := hN hsu
        repeat' (first | (refine fv_sl ?_) | (refine fh_ob ?_) | refine o1 ?_ | refine o2 ?_ | refine k1 ?_ | refine k2 ?_ | refine k3 ?_ | refine k4 ?_ | refine k6 ?_ | refine k8 ?_ | refine And.intro ?_ ?_ | refine o3 ?_ | refine o4 ?_ | (intro h; first | exact Bool.noConfusion h | exact nz _ h | exact nl h | (simp at h; done) | (simp at h; first | (exfalso; omega) | skip) | skip) | exact (by kernel_rfl : drawOk _ _ = true) | refine eqv_wrap (by omega) (by omega) ?_ | refine ⟨_, _, (by first | rfl | assumption), at_map (by assumption), ?_⟩ | (change vcFunD _ _ _ _ _; refine callD_eq rfl (by repeat' (first | trivial | refine And.intro ?_ ?_ | (show 0 + _ ≤ List.length _; simp))) ALeL.refl (c1) rfl ?_) | (change vcFun _ _ _ _ _; refine call_eq rfl (by repeat' (first | trivial | refine And.intro ?_ ?_ | (show 0 + _ ≤ List.length _; simp))) ALeL.refl (c2) rfl ?_) | (change vcFunD _ _ _ _ _; refine callD_eq rfl (by repeat' (first | trivial | refine And.intro ?_ ?_ | (show 0 + _ ≤ List.length _; simp))) ALeL.refl (c2) rfl ?_) | (change vcFunD _ _ _ _ _; refine callD_eq rfl (by repeat' (first | trivial | refine And.intro ?_ ?_ | (show 0 + _ ≤ List.length _; simp))) ALeL.refl (c3) rfl ?_) | fail)
        all_goals first
          | (exfalso; exact hsu ⟨by omega, by assumption, by assumption⟩)
          | (refine ⟨r + 1, by omega, by omega, ?_⟩
             rw [hU]
             exact back [0, 1, 2, 3, 4, 5, 6] rfl rfl (by repeat' (first | exact trivial | exact rfl | refine kept_ob rfl ?_ | refine kept_bx ren_bxO rfl ?_ | refine And.intro ?_ ?_)) (by repeat' (first | exact trivial | exact rfl | exact ren_get rfl | refine And.intro ?_ ?_)))
    · obtain rfl : r = x.rooms.length := by omega
      repeat' (first | (refine fh_ob ?_) | refine o1 ?_ | refine o2 ?_ | refine k1 ?_ | refine k2 ?_ | refine k3 ?_ | refine k8 ?_ | refine And.intro ?_ ?_ | (intro h; first | exact Bool.noConfusion h | exact nz _ h | exact nl h | (simp at h; done) | (simp at h; first | (exfalso; omega) | skip) | skip) | refine eqv_wrap (by omega) (by omega) ?_ | fail)
      refine ⟨i + 1, by omega, by omega, ?_⟩
      rw [hnx]
      exact back [0, 1, 2, 3, 4, 5] rfl rfl (by repeat' (first | exact trivial | exact rfl | refine kept_ob rfl ?_ | refine kept_bx ren_bxO rfl ?_ | refine And.intro ?_ ?_)) (by repeat' (first | exact trivial | exact rfl | exact ren_get rfl | refine And.intro ?_ ?_))
  · obtain rfl : i = x.sits.length := by omega
    have hGn := hG x.sits.length
    generalize gr (seatsI x e) x.sits.length = U at *
    refine forceH_in ?_
    refine ghost_seq (Γ' := [(0, .ptr 0 13 0 0), (18, vint .i64 x.sits.length), (19, vint .i64 x.sits.length), (5, .pv (.sl 6 (rowsO x U))), (6, slP 3 2 (rowsS U))]) (H' := [some ⟨102, 13, false, .box (pvs x.cells ++ [slP 1 1 SR, slP 2 1 CR, nilA, nilA, vint .i64 7])⟩, obP 155 1 SR, obP 73 1 CR, obP 107 2 (rowsS U)])
      (Ghost.sl (s := 5) (id := 4) rfl rfl fun H' hl hH => back [0, 1, 2, 5] rfl rfl (kept_bx ren_bxO (hH 0 (by decide)) (kept_ob (hH 1 (by decide)) (kept_ob (hH 2 (by decide)) (kept_ob (hH 5 (by decide)) trivial)))) (by repeat' (first | exact trivial | exact rfl | exact ren_get rfl | refine And.intro ?_ ?_))) ?_
    refine ghost_seq (Γ' := [(0, .ptr 0 13 0 0), (18, vint .i64 x.sits.length), (19, vint .i64 x.sits.length), (5, .pv (.sl 6 (rowsO x U))), (6, .pv (.sl 2 (rowsS U)))]) (H' := [some ⟨102, 13, false, .box (pvs x.cells ++ [slP 1 1 SR, slP 2 1 CR, nilA, nilA, vint .i64 7])⟩, obP 155 1 SR, obP 73 1 CR])
      (Ghost.sl (s := 6) (id := 3) rfl rfl fun H' hl hH => back [0, 1, 2] rfl rfl (kept_bx ren_bxO (hH 0 (by decide)) (kept_ob (hH 1 (by decide)) (kept_ob (hH 2 (by decide)) trivial))) (by repeat' (first | exact trivial | exact rfl | refine And.intro ?_ ?_))) ?_
    repeat' (first | (refine fv_sl ?_) | (refine fh_ob ?_) | ((refine o_appD rfl rfl rfl rfl rfl rfl rfl rfl rfl rfl rfl (by omega) (by omega) ?_)) | refine o1 ?_ | refine o2 ?_ | refine k1 ?_ | refine k2 ?_ | refine k3 ?_ | refine k7 ?_ | refine k8 ?_ | refine And.intro ?_ ?_ | refine o3 ?_ | refine o4 ?_ | (intro h; first | exact Bool.noConfusion h | exact nz _ h | exact nl h | (simp at h; done) | (simp at h; first | (exfalso; omega) | skip) | skip) | exact (by kernel_rfl : drawOk _ _ = true) | refine eqv_len_map ?_ | fail)
    all_goals
      change retOk _ _ _ _
      have e1 : decide ((U.length : Int) ≤ 24) = decide (U.length ≤ 24) := decide_eq_decide.2 (by omega)
      refine ret_conv [0, 1, 2, 6, 4] [some ⟨102, 13, false, .box (pvs x.cells ++ [slP 3 1 (SR ++ [seatsRow U]), slP 4 1 (CR ++ [[.sl 6 (rowsO x U)]]), nilA, nilA, vint .i64 7])⟩, none, none, obP 155 1 (SR ++ [seatsRow U]), obP 73 1 (CR ++ [[.sl 6 (rowsO x U)]])] rfl rfl ?_ rfl True.intro rfl ⟨congrArg vbool e1, rfl⟩
      rw [sl_app, sl_app, ob_app, ob_app]
      exact ⟨rfl, rfl, rfl, trivial⟩
end Go.Proofs.YtpnghlibmpainaaGreat.Cw

/-
  Contracts: the pair of two exams, by the builder.
-/
namespace Go.Proofs.YtpnghlibmpainaaGreat.Cw
open Go Go.Cw Go.Proofs
set_option linter.unusedVariables false
set_option maxRecDepth 100000
set_option maxHeartbeats 20000000

theorem mapO_pvsC {H : Heap} {n : Nat} : ∀ l : List PV, mapO (convC H n) (pvs l) = some l
  | [] => rfl
  | p :: l => by
    rw [pvs]
    simp only [mapO, mapO_pvsC l]
    cases n <;> rfl
theorem mapO_appC {f : AV → Option PV} {b : List AV} {y : List PV} (hb : mapO f b = some y) : ∀ {a : List AV} {x : List PV}, mapO f a = some x → mapO f (a ++ b) = some (x ++ y)
  | [], x, h => by
    simp only [mapO, Option.some.injEq] at h
    subst h; exact hb
  | c :: a, x, h => by
    simp only [mapO] at h
    split at h
    · rename_i z zs h1 h2
      simp only [Option.some.injEq] at h
      subst h
      simp only [List.cons_append, mapO, h1, mapO_appC hb h2]
    · cases h
theorem conv_slC {H : Heap} {id z ty : Nat} {rows : List (List PV)} (ho : H[id]? = some (obP ty z rows)) : ∃ p, convC H 4 (slP id z rows) = some p ∧ okC H 4 (slP id z rows) := by
  cases rows with
  | nil => exact ⟨_, rfl, True.intro⟩
  | cons a l =>
    refine ⟨.sl z (a :: l), ?_, ?_⟩
    · simp only [slP, convC, ho, obP]
      simp
    · simp only [slP, okC, ho, obP]
      simp
theorem andL_pvsC {f : AV → Prop} {b : List AV} (hb : andL f b) : ∀ l : List PV, andL f (pvs l ++ b)
  | [] => hb
  | p :: l => andL_pvsC hb l
/-- The builder's pointer is lent to a call with a plain answer. -/
theorem call_bld {P : Program} {f : FuncId} {H : Heap} {K : AV → Heap → Prop} {id ty ty2 z : Nat} {fz : Bool} {ps qs : List PV} {rows : List (List PV)} {rest : List AV} {v : AV} (h : H[0]? = some (some ⟨ty, 13, fz, .box (pvs ps ++ slP id z rows :: pvs qs)⟩)) (ho : H[id]? = some (obP ty2 z rows))
    (hr : mapO (conv H) rest = some rest) (hk : andL (ok1 H) rest) (hc : ∀ q, PCall P f (.pv (.ia (ps ++ q :: qs)) :: rest) (fun r => r = v)) (hs : scal v = true) (hK : K v H) : vcFun P f (.ptr 0 13 0 0 :: rest) H K := by
  obtain ⟨p, h1, h2⟩ := conv_slC ho
  have hm : mapO (convC H 4) (pvs ps ++ slP id z rows :: pvs qs) = some (ps ++ p :: qs) := mapO_appC (by simp only [mapO, h1, mapO_pvsC]) (mapO_pvsC ps)
  have hp : convC H 5 (.ptr 0 13 0 0) = some (.ia (ps ++ p :: qs)) := by
    simp only [convC, h]
    simp [hm]
  have hok : okC H 5 (.ptr 0 13 0 0) := by
    simp only [okC, h, List.drop_zero]
    refine andL_pvsC ?_ ps
    have e := andL_pvsC (f := okC H 4) (b := []) True.intro qs
    rw [List.append_nil] at e
    cases rows with
    | nil => exact e
    | cons a l => exact ⟨h2, e⟩
  refine call_scal (as0 := .pv (.ia (ps ++ p :: qs)) :: rest) ?_ ⟨hok, hk⟩ ALeL.refl (hc p) fun r hr => by subst hr; exact ⟨hs, hK⟩
  show mapO (conv H) (.ptr 0 13 0 0 :: rest) = _
  simp only [mapO, hr]
  have : conv H (.ptr 0 13 0 0) = some (.pv (.ia (ps ++ p :: qs))) := by
    simp only [conv, conv1, hp]
  rw [this]
/-- The builder with pure seats, classes, counts; pairs grow. -/
def bxP (x : Exams) (q8 q9 : PV) (P : AV) : AObj := ⟨102, 13, false, .box (pvs x.cells ++ [.pv q8, .pv q9, P, nilA, vint .i64 7])⟩
theorem ren_bxY {d i z : Nat} {rn : List Nat} {r : List (List PV)} {p0 p1 p2 p3 p4 p5 p6 p7 p8 p9 p10 p11 : PV} : renL d rn [.pv p0, .pv p1, .pv p2, .pv p3, .pv p4, .pv p5, .pv p6, .pv p7, .pv p8, .pv p9, slP i z r, .pv p10, .pv p11] = [.pv p0, .pv p1, .pv p2, .pv p3, .pv p4, .pv p5, .pv p6, .pv p7, .pv p8, .pv p9, slP (rn.getD i d) z r, .pv p10, .pv p11] := by simp [renL, renC, ren_sl]
theorem ren_bx3 {d : Nat} {rn : List Nat} {id z : Nat} {rows : List (List PV)} {a b c : PV} : renL d rn [.pv a, .pv b, .pv c, slP id z rows] = [.pv a, .pv b, .pv c, slP (rn.getD id d) z rows] := by simp [renL, ren_sl, renC]
theorem c_pair (x : Exams) (q9 : PV) (PR : List (List PV)) (u i k : Nat) (A B : List Seat) (e f : Exam) (h0 : examsE x = 0) (hA : (setsX x)[i]? = some A) (hB : (setsX x)[k]? = some B) (he : x.exams[i]? = some e) (hf : x.exams[k]? = some f)
    (hAl : A.length ≤ 24) (hBl : B.length ≤ 24) (hsA : ∀ s ∈ A, ∃ t, x.sits[s.sit]? = some t) (hsB : ∀ s ∈ B, ∃ t, x.sits[s.sit]? = some t) (hPR : PR.length ≤ 100000) :
    ACall Tryz.prog 47 [.ptr 0 13 0 0, vint .i64 u, vint .i64 i, vint .i64 k] [some (bxP x (.sl 1 ((setsX x).map seatsRow)) q9 (slP 1 4 PR)), obP 116 4 PR]
      (fun r H' => r = .tup [] ∧ H' = if (tabS (entX x) u i k A B).any (fun n => n != 0) = true then [some (bxP x (.sl 1 ((setsX x).map seatsRow)) q9 (slP 2 4 (PR ++ [Pair.row ⟨i, k, u, tabS (entX x) u i k A B⟩]))), none, obP 116 4 (PR ++ [Pair.row ⟨i, k, u, tabS (entX x) u i k A B⟩])] else [some (bxP x (.sl 1 ((setsX x).map seatsRow)) q9 (slP 1 4 PR)), obP 116 4 PR]) := by
  unfold bxP
  refine acall_of tok mixed 78 rfl (fn := Tryz.f47) (c := Tryz.f47.body.getD .skip) (by kernel_rfl) (by kernel_rfl) (by kernel_rfl) rfl 2 rfl ?_
  repeat' (first | (refine fh_ob ?_) | (refine idx_sl (k := i) (at_map hA) rfl ?_) | refine o1 ?_ | refine o2 ?_ | refine k1 ?_ | refine k2 ?_ | refine k4 ?_ | refine And.intro ?_ ?_ | exact (by kernel_rfl : drawOk _ _ = true) | refine eqv_len_map ?_ | fail)
  refine loop_for (fun a : Nat => [(0, .ptr 0 13 0 0), (1, vint .i64 u), (2, vint .i64 i), (3, vint .i64 k), (8, .ptr 2 4 0 0), (9, vbool ((gr (rowS (entX x) u i k A B) a).any fun n => n != 0)), (26, .pv (.sl 2 (A.map Seat.row))), (27, vint .i64 A.length), (28, vint .i64 a)]) (fun a => [some ⟨102, 13, false, .box (pvs x.cells ++ [.pv (.sl 1 ((setsX x).map seatsRow)), .pv q9, slP 1 4 PR, nilA, vint .i64 7])⟩, obP 116 4 PR, some ⟨116, 4, false, .box [vint .i64 i, vint .i64 k, vint .i64 u, slP 3 1 ((gr (rowS (entX x) u i k A B) a).map fun n => [ei n])]⟩, obP 3 1 ((gr (rowS (entX x) u i k A B) a).map fun n => [ei n])]) (fun a => a ≤ A.length) (fun a => A.length - a) 0 (Nat.zero_le _) ?_ ?_
  · exact back [0, 1, 2, 3] rfl rfl (by repeat' (first | exact trivial | refine kept_ob rfl ?_ | refine kept_bx ren_bxY rfl ?_ | refine kept_bx ren_bx3 rfl ?_)) (by repeat' (first | exact trivial | exact rfl | refine And.intro ?_ ?_))
  intro a ha
  have htl := gr_len (F := rowS (entX x) u i k A B) (m := B.length) (fun i => rowS_len) a
  have htb : a * B.length ≤ 24 * 24 := Nat.mul_le_mul (by omega) hBl
  rcases Nat.lt_or_ge a A.length with hal | hag
  · obtain ⟨s, hs⟩ := getE hal
    obtain ⟨ss, hss⟩ := hsA s (List.mem_of_getElem? hs)
    repeat' (first | (refine fh_ob ?_) | (refine idx_sl (k := k) (at_map hB) rfl ?_) | refine o1 ?_ | refine o2 ?_ | refine k1 ?_ | refine k2 ?_ | refine k3 ?_ | refine k4 ?_ | refine k6 ?_ | refine And.intro ?_ ?_ | (intro h; first | exact Bool.noConfusion h | exact nz _ h | exact nl h | (simp at h; done) | (simp at h; first | (exfalso; omega) | skip) | skip) | exact (by kernel_rfl : drawOk _ _ = true) | refine eqv_len_map ?_ | refine ⟨_, _, (by first | rfl | assumption), at_map (by assumption), ?_⟩ | fail)
    refine loop_for (fun b : Nat => [(0, .ptr 0 13 0 0), (1, vint .i64 u), (2, vint .i64 i), (3, vint .i64 k), (8, .ptr 2 4 0 0), (9, vbool ((gr (rowS (entX x) u i k A B) a ++ (rowS (entX x) u i k A B a).take b).any fun n => n != 0)), (26, .pv (.sl 2 (A.map Seat.row))), (27, vint .i64 A.length), (28, vint .i64 a), (11, .ptr 4 2 0 0), (39, .pv (.sl 2 (B.map Seat.row))), (40, vint .i64 B.length), (41, vint .i64 b)]) (fun b => [some ⟨102, 13, false, .box (pvs x.cells ++ [.pv (.sl 1 ((setsX x).map seatsRow)), .pv q9, slP 1 4 PR, nilA, vint .i64 7])⟩, obP 116 4 PR, some ⟨116, 4, false, .box [vint .i64 i, vint .i64 k, vint .i64 u, slP 3 1 ((gr (rowS (entX x) u i k A B) a ++ (rowS (entX x) u i k A B a).take b).map fun n => [ei n])]⟩, obP 3 1 ((gr (rowS (entX x) u i k A B) a ++ (rowS (entX x) u i k A B a).take b).map fun n => [ei n]), some ⟨107, 2, false, .box (pvs s.row)⟩]) (fun b => b ≤ B.length) (fun b => B.length - b) 0 (Nat.zero_le _) ?_ ?_
    · rw [gr_none]
      exact back [0, 1, 2, 3, 4] rfl rfl (by repeat' (first | exact trivial | exact rfl | refine kept_ob rfl ?_ | refine kept_bx ren_bxY rfl ?_ | refine kept_bx ren_bx3 rfl ?_ | refine And.intro ?_ ?_)) (by repeat' (first | exact trivial | exact rfl | refine And.intro ?_ ?_))
    intro b hb
    have hrl := rowS_len (E := entX x) (u := u) (i := i) (k := k) (A := A) (B := B) (a := a)
    have htk : ((rowS (entX x) u i k A B a).take b).length ≤ 24 := Nat.le_trans (List.length_take_le' ..) (by omega)
    have htt : (gr (rowS (entX x) u i k A B) a ++ (rowS (entX x) u i k A B a).take b).length ≤ 1000 := by rw [List.length_append]; omega
    rcases Nat.lt_or_ge b B.length with hbl | hbg
    · obtain ⟨t, ht⟩ := getE hbl
      obtain ⟨tt, htt2⟩ := hsB t (List.mem_of_getElem? ht)
      have hnx := gr_next (F := rowS (entX x) u i k A B) (rowS_get (E := entX x) (u := u) (i := i) (k := k) hs ht)
      have hcall : ∀ q, PCall Tryz.prog 91 (.pv (.ia ((x.cells ++ [.sl 1 ((setsX x).map seatsRow), q9]) ++ q :: [.val (.slice none 0 0), ei 7])) :: [vint .i64 u, vint .i64 i, vint .i64 k, ag s.row, ag t.row]) (fun r => r = vint .i64 (entX x u i k s t)) := fun q => by
        rw [entX_at hss htt2 he hf]
        exact c_entry x _ q9 q _ u i k s t ss tt e f h0 hss htt2 he hf
      generalize entX x u i k s t = n at *
      generalize gr (rowS (entX x) u i k A B) a ++ (rowS (entX x) u i k A B a).take b = T0 at *
      generalize hbb : (T0.any fun n => n != 0) = bb at *
      cases bb
      all_goals
        repeat' (first | (refine fv_sl ?_) | (refine fh_ob ?_) | ((change vcFun _ _ _ _ _; refine call_bld (id := 1) (rows := PR) (ps := x.cells ++ [.sl 1 ((setsX x).map seatsRow), q9]) (qs := [.val (.slice none 0 0), ei 7]) rfl rfl rfl (by repeat' (first | trivial | refine And.intro ?_ ?_ | (show 0 + _ ≤ List.length _; simp))) hcall rfl ?_)) | ((refine o_app rfl rfl rfl rfl rfl rfl rfl rfl rfl rfl rfl (by rw [List.length_map]; omega) (by rw [List.length_map]; omega) ?_)) | refine o1 ?_ | refine o2 ?_ | refine k1 ?_ | refine k2 ?_ | refine k3 ?_ | refine k4 ?_ | refine k6 ?_ | refine And.intro ?_ ?_ | (intro h; first | exact Bool.noConfusion h | exact nz _ h | exact nl h | (simp at h; done) | (simp at h; first | (exfalso; omega) | skip) | skip) | exact (by kernel_rfl : drawOk _ _ = true) | refine eqv_wrap (by omega) (by omega) ?_ | refine ⟨_, _, (by first | rfl | assumption), at_map (by assumption), ?_⟩ | fail)
      all_goals
        refine ⟨b + 1, by omega, by omega, ?_⟩
        rw [hnx, any_snoc, hbb, map_snoc, sl_app, ob_app]
        exact back [0, 1, 2, 7, 4] rfl rfl (by repeat' (first | exact trivial | exact rfl | refine kept_ob rfl ?_ | refine kept_bx ren_bxY rfl ?_ | refine And.intro ?_ ?_)) (by repeat' (first | exact trivial | exact rfl | refine And.intro ?_ ?_))
    obtain rfl : b = B.length := by omega
    repeat' (first | (refine fh_ob ?_) | refine o1 ?_ | refine o2 ?_ | refine k1 ?_ | refine k2 ?_ | refine k3 ?_ | refine k8 ?_ | refine And.intro ?_ ?_ | (intro h; first | exact Bool.noConfusion h | exact nz _ h | exact nl h | (simp at h; done) | (simp at h; first | (exfalso; omega) | skip) | skip) | refine eqv_wrap (by omega) (by omega) ?_ | fail)
    refine ⟨a + 1, by omega, by omega, ?_⟩
    rw [gr_all hrl]
    exact back [0, 1, 2, 3] rfl rfl (by repeat' (first | exact trivial | refine kept_ob rfl ?_ | refine kept_bx ren_bxY rfl ?_ | refine kept_bx ren_bx3 rfl ?_)) (by repeat' (first | exact trivial | exact rfl | refine And.intro ?_ ?_))
  obtain rfl : a = A.length := by omega
  refine forceH_in ?_
  change xCode _ _ _ _ _ _ [(0, .ptr 0 13 0 0), (1, vint .i64 u), (2, vint .i64 i), (3, vint .i64 k), (8, .ptr 2 4 0 0), (9, vbool ((tabS (entX x) u i k A B).any fun n => n != 0)), (26, .pv (.sl 2 (A.map Seat.row))), (27, vint .i64 A.length), (28, vint .i64 A.length)] [some ⟨102, 13, false, .box (pvs x.cells ++ [.pv (.sl 1 ((setsX x).map seatsRow)), .pv q9, slP 1 4 PR, nilA, vint .i64 7])⟩, obP 116 4 PR, some ⟨116, 4, false, .box [vint .i64 i, vint .i64 k, vint .i64 u, slP 3 1 ((tabS (entX x) u i k A B).map fun n => [ei n])]⟩, obP 3 1 ((tabS (entX x) u i k A B).map fun n => [ei n])]
  generalize hQ : ((tabS (entX x) u i k A B).any fun n => n != 0) = Q at *
  generalize tabS (entX x) u i k A B = TB at *
  refine ghost_seq (Γ' := [(0, .ptr 0 13 0 0), (1, vint .i64 u), (2, vint .i64 i), (3, vint .i64 k), (8, .ptr 2 4 0 0), (9, vbool Q), (27, vint .i64 A.length), (28, vint .i64 A.length)]) (H' := [some ⟨102, 13, false, .box (pvs x.cells ++ [.pv (.sl 1 ((setsX x).map seatsRow)), .pv q9, slP 1 4 PR, nilA, vint .i64 7])⟩, obP 116 4 PR, some ⟨116, 4, false, .box [vint .i64 i, vint .i64 k, vint .i64 u, .pv (.sl 1 (TB.map fun n => [ei n]))]⟩])
    (Ghost.shut_sl (i := 2) (c := 3) (id := 3) rfl rfl rfl (by decide) fun H' hl h2 hH => back [0, 1, 2] rfl rfl (kept_bx ren_bxY (hH 0 (by decide) (by decide)) (kept_ob (hH 1 (by decide) (by decide)) (And.intro h2 trivial))) (by repeat' (first | exact trivial | exact rfl | refine And.intro ?_ ?_))) ?_
  cases Q
  all_goals
    repeat' (first | (refine fv_sl ?_) | (refine fh_ob ?_) | ((refine o_appD rfl rfl rfl rfl rfl rfl rfl rfl rfl rfl rfl (by omega) (by omega) ?_)) | refine o1 ?_ | refine o2 ?_ | refine k1 ?_ | refine k2 ?_ | refine k3 ?_ | refine k6 ?_ | refine k8 ?_ | refine And.intro ?_ ?_ | refine o3 ?_ | refine o4 ?_ | (intro h; first | exact Bool.noConfusion h | exact nz _ h | exact nl h | (simp at h; done) | (simp at h; first | (exfalso; omega) | skip) | skip) | exact (by kernel_rfl : drawOk _ _ = true) | fail)
  · change retOk _ _ _ _
    exact ret_obj [0, 1] [some ⟨102, 13, false, .box (pvs x.cells ++ [.pv (.sl 1 ((setsX x).map seatsRow)), .pv q9, slP 1 4 PR, nilA, vint .i64 7])⟩, obP 116 4 PR] rfl rfl (kept_bx ren_bxY rfl (kept_ob rfl trivial)) (r' := .tup []) rfl ⟨rfl, rfl⟩
  all_goals
    change retOk _ _ _ _
    refine ret_obj [0, 1, 4] [some ⟨102, 13, false, .box (pvs x.cells ++ [.pv (.sl 1 ((setsX x).map seatsRow)), .pv q9, slP 2 4 (PR ++ [Pair.row ⟨i, k, u, TB⟩]), nilA, vint .i64 7])⟩, none, obP 116 4 (PR ++ [Pair.row ⟨i, k, u, TB⟩])] rfl rfl ?_ (r' := .tup []) rfl ⟨rfl, rfl⟩
    rw [sl_app, ob_app]
    exact ⟨rfl, rfl, trivial⟩
end Go.Proofs.YtpnghlibmpainaaGreat.Cw

/-
  Contracts: the count of a sitting and a room, by the builder.
-/
namespace Go.Proofs.YtpnghlibmpainaaGreat.Cw
open Go Go.Cw Go.Proofs
set_option linter.unusedVariables false
set_option maxRecDepth 100000
set_option maxHeartbeats 20000000

def idxQ (s r : Nat) (A : List Seat) : Int := match A.findIdx? (seatIs s r) with
  | some k => k
  | none => -1
theorem seatIs_t {s r : Nat} {q : Seat} (h : q.sit = s ∧ q.room = r) : seatIs s r q = true := by unfold seatIs; simp [h]
theorem seatIs_f {s r : Nat} {q : Seat} (h : ¬ (q.sit = s ∧ q.room = r)) : seatIs s r q = false := by unfold seatIs; simp; omega
theorem idxQ_at {s r : Nat} {A : List Seat} {k : Nat} {q : Seat} (h0 : ∀ j, j < k → ∀ y, A[j]? = some y → seatIs s r y = false) (hq : A[k]? = some q) (h : seatIs s r q = true) : A.findIdx? (seatIs s r) = some k := by
  obtain ⟨hk, rfl⟩ := List.getElem?_eq_some_iff.1 hq
  refine List.findIdx?_eq_some_iff_getElem.2 ⟨hk, h, fun j hj => ?_⟩
  have := h0 j hj _ (List.getElem?_eq_getElem (by omega))
  simp [this]
theorem idxQ_none {s r : Nat} {A : List Seat} (h0 : ∀ j, j < A.length → ∀ y, A[j]? = some y → seatIs s r y = false) : A.findIdx? (seatIs s r) = none := by
  rw [List.findIdx?_eq_none_iff]
  intro y hy
  obtain ⟨j, hj⟩ := List.getElem?_of_mem hy
  exact h0 j (List.getElem?_eq_some_iff.1 hj).1 y hj
theorem c_idxQ (A : List Seat) (s r : Nat) (hl : A.length ≤ 100000) : PCall Tryz.prog 92 [.pv (.sl 2 (A.map Seat.row)), ag (Seat.row ⟨s, r⟩)] (fun a => a = vint .i64 (idxQ s r A)) := by
  unfold idxQ
  refine acall_of tok mixed 19 rfl (fn := Tryz.f92) (c := Tryz.f92.body.getD .skip) (by kernel_rfl) (by kernel_rfl) (by kernel_rfl) rfl 0 rfl ?_
  repeat' (first | refine o1 ?_ | refine o2 ?_ | refine k1 ?_ | refine k2 ?_ | refine k4 ?_ | refine eqv_len_map ?_ | fail)
  refine loop_in (fun i : Nat => [(8, vint .i64 i)]) (fun _ => [some ⟨107, 2, false, .box (pvs (Seat.row ⟨s, r⟩))⟩]) (fun i => i ≤ A.length ∧ ∀ j, j < i → ∀ y, A[j]? = some y → seatIs s r y = false) (fun i => A.length - i) 0 ⟨by omega, fun j hj => by omega⟩ ⟨?_, ?_⟩
  · exact back [0] rfl rfl ⟨rfl, trivial⟩ (by repeat' (first | exact trivial | exact rfl | refine And.intro ?_ ?_))
  intro i ⟨hi, hall⟩
  rcases Nat.lt_or_ge i A.length with hlt | hge
  · obtain ⟨q, hq⟩ := getE hlt
    repeat' (first | (refine idx_sl (k := i) (at_map hq) rfl ?_) | refine o1 ?_ | refine o2 ?_ | refine k1 ?_ | refine k2 ?_ | refine k3 ?_ | refine k4 ?_ | refine k6 ?_ | refine k7 ?_ | refine And.intro ?_ ?_ | refine o3 ?_ | refine o4 ?_ | (intro h; first | exact Bool.noConfusion h | exact nz _ h | exact nl h | (simp at h; done) | (simp at h; first | (exfalso; omega) | skip) | skip) | (change retOk _ _ _ _; refine ret_pure rfl trivial ?_) | exact (by kernel_rfl : drawOk _ _ = true) | refine eqv_wrap (by omega) (by omega) ?_ | fail)
    · rw [idxQ_at hall hq (seatIs_t (by omega))]
      rfl
    · exact ⟨i + 1, ⟨by omega, all_lt_succ hall fun y hy => by rw [hq] at hy; cases hy; exact seatIs_f (by omega)⟩, by omega, back [0] rfl rfl ⟨rfl, trivial⟩ (by repeat' (first | exact trivial | exact rfl | refine And.intro ?_ ?_))⟩
  · repeat' (first | refine o1 ?_ | refine o2 ?_ | refine k1 ?_ | refine k2 ?_ | refine k3 ?_ | refine k7 ?_ | refine k8 ?_ | refine And.intro ?_ ?_ | (intro h; first | exact Bool.noConfusion h | exact nz _ h | exact nl h | (simp at h; done) | (simp at h; first | (exfalso; omega) | skip) | skip) | (change retOk _ _ _ _; refine ret_pure rfl trivial ?_) | fail)
    rw [idxQ_none fun j hj => hall j (by omega)]
    rfl
theorem ren_bxZ {d i z : Nat} {rn : List Nat} {r : List (List PV)} {p0 p1 p2 p3 p4 p5 p6 p7 p8 p9 p10 p11 : PV} : renL d rn [.pv p0, .pv p1, .pv p2, .pv p3, .pv p4, .pv p5, .pv p6, .pv p7, .pv p8, .pv p9, .pv p10, slP i z r, .pv p11] = [.pv p0, .pv p1, .pv p2, .pv p3, .pv p4, .pv p5, .pv p6, .pv p7, .pv p8, .pv p9, .pv p10, slP (rn.getD i d) z r, .pv p11] := by simp [renL, renC, ren_sl]
theorem ren_bxL {d : Nat} {rn : List Nat} {id z : Nat} {rows : List (List PV)} {a b c : PV} : renL d rn [.pv a, slP id z rows, .pv b, .pv c] = [.pv a, slP (rn.getD id d) z rows, .pv b, .pv c] := by simp [renL, ren_sl, renC]
theorem c_count (x : Exams) (q9 q10 : PV) (NR : List (List PV)) (s r : Nat) (hl : LensX x) (hr : r < x.rooms.length) (hS : ∀ A ∈ setsX x, A.length ≤ 24) (hn : x.exams.length ≤ 24) (hNR : NR.length ≤ 100000) :
    ACall Tryz.prog 48 [.ptr 0 13 0 0, ag (Seat.row ⟨s, r⟩)] [some ⟨102, 13, false, .box (pvs x.cells ++ [.pv (.sl 1 ((setsX x).map seatsRow)), .pv q9, .pv q10, slP 1 4 NR, vint .i64 7])⟩, obP 120 4 NR]
      (fun a H' => a = .tup [] ∧ H' = if 1 < (loadsS (setsX x) (wtX x) s r (setsX x).length).length then [some ⟨102, 13, false, .box (pvs x.cells ++ [.pv (.sl 1 ((setsX x).map seatsRow)), .pv q9, .pv q10, slP 2 4 (NR ++ [Count.row ⟨1, loadsS (setsX x) (wtX x) s r (setsX x).length, mostX x r, 1099511627776⟩]), vint .i64 7])⟩, none, obP 120 4 (NR ++ [Count.row ⟨1, loadsS (setsX x) (wtX x) s r (setsX x).length, mostX x r, 1099511627776⟩])] else [some ⟨102, 13, false, .box (pvs x.cells ++ [.pv (.sl 1 ((setsX x).map seatsRow)), .pv q9, .pv q10, slP 1 4 NR, vint .i64 7])⟩, obP 120 4 NR]) := by
  obtain ⟨q, hq⟩ := getE hr
  have hm : mostX x r = q.seats := by unfold mostX; rw [hq]
  have hsl : (setsX x).length = x.exams.length := List.length_map _
  rw [hm]
  refine acall_of tok mixed 72 rfl (fn := Tryz.f48) (c := Tryz.f48.body.getD .skip) (by kernel_rfl) (by kernel_rfl) (by kernel_rfl) rfl 2 rfl ?_
  repeat' (first | (refine fh_ob ?_) | (refine idx_sl (k := r) (at_map hq) rfl ?_) | refine o1 ?_ | refine o2 ?_ | refine k1 ?_ | refine k2 ?_ | refine k4 ?_ | refine And.intro ?_ ?_ | refine o3 ?_ | refine o4 ?_ | exact (by kernel_rfl : drawOk _ _ = true) | refine eqv_len_map ?_ | fail)
  refine loop_for (fun i : Nat => [(0, .ptr 0 13 0 0), (3, .ptr 2 2 0 0), (4, .ptr 3 4 0 0), (24, .pv (.sl 1 ((setsX x).map seatsRow))), (25, vint .i64 (setsX x).length), (26, vint .i64 i)]) (fun i => [some ⟨102, 13, false, .box (pvs x.cells ++ [.pv (.sl 1 ((setsX x).map seatsRow)), .pv q9, .pv q10, slP 1 4 NR, vint .i64 7])⟩, obP 120 4 NR, some ⟨107, 2, false, .box (pvs (Seat.row ⟨s, r⟩))⟩, some ⟨120, 4, false, .box [vint .i64 1, slP 4 3 ((loadsS (setsX x) (wtX x) s r i).map Load.row), vint .i64 q.seats, vint .i64 1099511627776]⟩, obP 122 3 ((loadsS (setsX x) (wtX x) s r i).map Load.row)]) (fun i => i ≤ (setsX x).length) (fun i => (setsX x).length - i) 0 (Nat.zero_le _) ?_ ?_
  · exact back [0, 1, 2, 3, 4] rfl rfl (by repeat' (first | exact trivial | exact rfl | refine kept_ob rfl ?_ | refine kept_bx ren_bxZ rfl ?_ | refine kept_bx ren_bxL rfl ?_ | refine And.intro ?_ ?_)) (by repeat' (first | exact trivial | exact rfl | refine And.intro ?_ ?_))
  intro i hi
  have hll := upto_len (l := setsX x) (f := loadF (wtX x) s r) (n := i)
  rcases Nat.lt_or_ge i (setsX x).length with hlt | hge
  · obtain ⟨A, hA⟩ := getE hlt
    obtain ⟨e, he⟩ := getE (show i < x.exams.length by omega)
    have hw : wtX x i = e.studs.length := by unfold wtX; rw [he]
    have hAl := hS A (List.mem_of_getElem? hA)
    have hc := c_idxQ A s r (by omega)
    have hSo := fun (k : Nat) (h : A.findIdx? (seatIs s r) = some k) => upto_some (f := loadF (wtX x) s r) hA (show loadF (wtX x) s r i A = some ⟨(i : Nat), (k : Nat), e.studs.length⟩ by unfold loadF; rw [h, hw]; rfl)
    have hNo := fun (h : A.findIdx? (seatIs s r) = none) => upto_none (f := loadF (wtX x) s r) hA (show loadF (wtX x) s r i A = none by unfold loadF; rw [h]; rfl)
    unfold loadsS
    unfold idxQ at hc
    generalize upto (setsX x) (loadF (wtX x) s r) i = L at *
    cases hf : A.findIdx? (seatIs s r) with
    | none =>
      rw [hf] at hc
      have hNo := hNo hf
      have hc : PCall Tryz.prog 92 [.pv (.sl 2 (A.map Seat.row)), ag (Seat.row ⟨s, r⟩)] (fun a => a = vint .i64 (-1)) := hc
      repeat' (first | (refine fh_ob ?_) | refine o1 ?_ | refine o2 ?_ | refine k1 ?_ | refine k2 ?_ | refine k3 ?_ | refine k4 ?_ | refine k6 ?_ | refine And.intro ?_ ?_ | (intro h; first | exact Bool.noConfusion h | exact nz _ h | exact nl h | (simp at h; done) | (simp at h; first | (exfalso; omega) | skip) | skip) | refine eqv_wrap (by omega) (by omega) ?_ | refine ⟨_, _, (by first | rfl | assumption), at_map (by assumption), ?_⟩ | (change vcFun _ _ _ _ _; refine call_eq rfl (by repeat' (first | trivial | refine And.intro ?_ ?_ | (show 0 + _ ≤ List.length _; simp))) ALeL.refl (hc) rfl ?_) | fail)
      refine ⟨i + 1, by omega, by omega, ?_⟩
      rw [hNo]
      exact back [0, 1, 2, 3, 4] rfl rfl (by repeat' (first | exact trivial | exact rfl | refine kept_ob rfl ?_ | refine kept_bx ren_bxZ rfl ?_ | refine kept_bx ren_bxL rfl ?_ | refine And.intro ?_ ?_)) (by repeat' (first | exact trivial | exact rfl | refine And.intro ?_ ?_))
    | some k =>
      rw [hf] at hc
      have hSo := hSo k hf
      have hc : PCall Tryz.prog 92 [.pv (.sl 2 (A.map Seat.row)), ag (Seat.row ⟨s, r⟩)] (fun a => a = vint .i64 (k : Int)) := hc
      repeat' (first | (refine fv_sl ?_) | (refine fh_ob ?_) | (refine idx_sl (k := i) (at_map he) rfl ?_) | ((refine o_appD rfl rfl rfl rfl rfl rfl rfl rfl rfl rfl rfl (by rw [List.length_map]; omega) (by rw [List.length_map]; omega) ?_)) | refine o1 ?_ | refine o2 ?_ | refine k1 ?_ | refine k2 ?_ | refine k3 ?_ | refine k4 ?_ | refine k6 ?_ | refine And.intro ?_ ?_ | refine o3 ?_ | refine o4 ?_ | (intro h; first | exact Bool.noConfusion h | exact nz _ h | exact nl h | (simp at h; done) | (simp at h; first | (exfalso; omega) | skip) | skip) | exact (by kernel_rfl : drawOk _ _ = true) | refine eqv_len_map ?_ | refine eqv_wrap (by omega) (by omega) ?_ | refine ⟨_, _, (by first | rfl | assumption), at_map (by assumption), ?_⟩ | (change vcFun _ _ _ _ _; refine call_eq rfl (by repeat' (first | trivial | refine And.intro ?_ ?_ | (show 0 + _ ≤ List.length _; simp))) ALeL.refl (hc) rfl ?_) | fail)
      all_goals
        refine ⟨i + 1, by omega, by omega, ?_⟩
        rw [hSo, map_snoc, sl_app, ob_app]
        exact back [0, 1, 2, 3, 6] rfl rfl (by repeat' (first | exact trivial | exact rfl | refine kept_ob rfl ?_ | refine kept_bx ren_bxZ rfl ?_ | refine And.intro ?_ ?_)) (by repeat' (first | exact trivial | exact rfl | refine And.intro ?_ ?_))
  · obtain rfl : i = (setsX x).length := by omega
    have hll : (loadsS (setsX x) (wtX x) s r (setsX x).length).length ≤ (setsX x).length := hll
    generalize loadsS (setsX x) (wtX x) s r (setsX x).length = L at *
    refine forceH_in ?_
    refine ghost_seq (Γ' := [(0, .ptr 0 13 0 0), (4, .ptr 2 4 0 0), (25, vint .i64 (setsX x).length), (26, vint .i64 (setsX x).length)]) (H' := [some ⟨102, 13, false, .box (pvs x.cells ++ [.pv (.sl 1 ((setsX x).map seatsRow)), .pv q9, .pv q10, slP 1 4 NR, vint .i64 7])⟩, obP 120 4 NR, some ⟨120, 4, false, .box [vint .i64 1, .pv (.sl 3 (L.map Load.row)), vint .i64 q.seats, vint .i64 1099511627776]⟩])
      (Ghost.shut_sl (i := 3) (c := 1) (id := 4) rfl rfl rfl (by decide) fun H' hl h2 hH => back [0, 1, 3] rfl rfl (kept_bx ren_bxZ (hH 0 (by decide) (by decide)) (kept_ob (hH 1 (by decide) (by decide)) (And.intro h2 trivial))) (by repeat' (first | exact trivial | exact rfl | refine And.intro ?_ ?_))) ?_
    by_cases hL : 1 < L.length
    · rw [if_pos hL]
      repeat' (first | (refine fv_sl ?_) | (refine fh_ob ?_) | ((refine o_appD rfl rfl rfl rfl rfl rfl rfl rfl rfl rfl rfl (by omega) (by omega) ?_)) | refine o1 ?_ | refine o2 ?_ | refine k1 ?_ | refine k2 ?_ | refine k3 ?_ | refine k8 ?_ | refine And.intro ?_ ?_ | refine o3 ?_ | refine o4 ?_ | (intro h; first | exact Bool.noConfusion h | exact nz _ h | exact nl h | (simp at h; done) | (simp at h; first | (exfalso; omega) | skip) | skip) | exact (by kernel_rfl : drawOk _ _ = true) | refine eqv_len_map ?_ | fail)
      all_goals
        change retOk _ _ _ _
        refine ret_obj [0, 1, 4] [some ⟨102, 13, false, .box (pvs x.cells ++ [.pv (.sl 1 ((setsX x).map seatsRow)), .pv q9, .pv q10, slP 2 4 (NR ++ [Count.row ⟨1, L, q.seats, 1099511627776⟩]), vint .i64 7])⟩, none, obP 120 4 (NR ++ [Count.row ⟨1, L, q.seats, 1099511627776⟩])] rfl rfl ?_ (r' := .tup []) rfl ⟨rfl, rfl⟩
        rw [sl_app, ob_app]
        exact ⟨rfl, rfl, trivial⟩
    · rw [if_neg hL]
      repeat' (first | refine o1 ?_ | refine o2 ?_ | refine k1 ?_ | refine k2 ?_ | refine k3 ?_ | refine k6 ?_ | refine k8 ?_ | refine And.intro ?_ ?_ | (intro h; first | exact Bool.noConfusion h | exact nz _ h | exact nl h | (simp at h; done) | (simp at h; first | (exfalso; omega) | skip) | skip) | refine eqv_len_map ?_ | fail)
      change retOk _ _ _ _
      exact ret_obj [0, 1] [some ⟨102, 13, false, .box (pvs x.cells ++ [.pv (.sl 1 ((setsX x).map seatsRow)), .pv q9, .pv q10, slP 1 4 NR, vint .i64 7])⟩, obP 120 4 NR] rfl rfl (kept_bx ren_bxZ rfl (kept_ob rfl trivial)) (r' := .tup []) rfl ⟨rfl, rfl⟩
end Go.Proofs.YtpnghlibmpainaaGreat.Cw

/-
  Calls of the builder's methods: objects that are there, or not.
-/
namespace Go.Proofs.YtpnghlibmpainaaGreat.Cw
open Go Go.Cw Go.Proofs
set_option linter.unusedVariables false
set_option maxRecDepth 100000
set_option maxHeartbeats 2000000

theorem renL_app {d : Nat} {rn : List Nat} : ∀ {a b : List AV}, renL d rn (a ++ b) = renL d rn a ++ renL d rn b
  | [], _ => rfl
  | x :: a, b => by rw [List.cons_append, renL, renL, renL_app]; rfl
theorem renL_pvs {d : Nat} {rn : List Nat} : ∀ {l : List PV}, renL d rn (pvs l) = pvs l
  | [] => rfl
  | p :: l => by rw [pvs, renL, renL_pvs]; rfl
def bxL (ty : TypeId) (l : List AV) : Option AObj := some ⟨ty, 13, false, .box l⟩
section
variable {P : Program} {f : FuncId} {K : AV → Heap → Prop} {ps qs es_ : List PV} {ty tS tC : TypeId} {o0 o1 o5 : Option AObj}
theorem call_opts {SA SC SA2 SC2 : List (List PV)} {n m : Nat} {b : Bool} (hs : (SA = [] ∧ SC = []) ∨ ((∃ a A, SA = a :: A) ∧ ∃ c C, SC = c :: C))
    (hc : ACall P f [.ptr 0 13 0 0, .agg (pvs es_)] [bxL ty (pvs ps ++ [slP 1 1 SA, slP 2 1 SC, nilA, nilA, vint .i64 7]), obP tS 1 SA, obP tC 1 SC]
      (fun r H' => r = vbool b ∧ H' = [bxL ty (pvs ps ++ [.ms 3 1 0 n, .ms 4 1 0 m, nilA, nilA, vint .i64 7]), none, none, some ⟨tS, 1, false, .p SA2⟩, some ⟨tC, 1, false, .p SC2⟩]))
    (hK1 : SA = [] → SC = [] → K (vbool b) [o0, o1, bxL ty (pvs ps ++ [.ms 8 1 0 n, .ms 9 1 0 m, nilA, nilA, vint .i64 7]), none, none, o5, none, none, some ⟨tS, 1, false, .p SA2⟩, some ⟨tC, 1, false, .p SC2⟩])
    (hK2 : K (vbool b) [o0, o1, bxL ty (pvs ps ++ [.ms 6 1 0 n, .ms 7 1 0 m, nilA, nilA, vint .i64 7]), none, none, o5, some ⟨tS, 1, false, .p SA2⟩, some ⟨tC, 1, false, .p SC2⟩]) :
    vcFun P f [.ptr 2 13 0 0, .agg (pvs es_)] [o0, o1, bxL ty (pvs ps ++ [slP 3 1 SA, slP 4 1 SC, nilA, nilA, vint .i64 7]), obP tS 1 SA, obP tC 1 SC, o5] K := by
  have hagg : ∀ {d : Nat} {rn : List Nat}, renL d rn [.ptr 0 13 0 0, .agg (pvs es_)] = [.ptr (rn.getD 0 d) 13 0 0, .agg (pvs es_)] := fun {d rn} => by
    simp only [renL, renC, renL_pvs]
  have hbx : ∀ {d : Nat} {rn : List Nat} {a c : AV}, renO d rn ⟨ty, 13, false, .box (pvs ps ++ [a, c, nilA, nilA, vint .i64 7])⟩ = ⟨ty, 13, false, .box (pvs ps ++ [renC d rn a, renC d rn c, nilA, nilA, vint .i64 7])⟩ := fun {d rn a c} => by
    simp only [renO, renRows, renL_app, renL_pvs, renL]; rfl
  rcases hs with ⟨rfl, rfl⟩ | ⟨⟨a, A, rfl⟩, c, C, rfl⟩
  · have hc := ACall.none1 (H := [_]) (ACall.none1 (H := [_, none]) hc)
    refine call_obj [2] [bxL ty (pvs ps ++ [slP 1 1 [], slP 2 1 [], nilA, nilA, vint .i64 7])] [.ptr 0 13 0 0, .agg (pvs es_)] rfl ⟨?_, trivial⟩ ?_ hc fun r Hc' hp => ?_
    · show some (some _) = some (some (renO _ _ _))
      rw [hbx]; rfl
    · rw [hagg]; rfl
    · obtain ⟨rfl, rfl⟩ := hp
      refine ⟨Nat.le_of_ble_eq_true rfl, ?_⟩
      show K (vbool b) ([o0, o1, some (renO _ _ _), none, none, o5] ++ [none, none, some _, some _])
      rw [hbx]
      exact hK1 rfl rfl
  · refine call_obj [2, 3, 4] [bxL ty (pvs ps ++ [slP 1 1 (a :: A), slP 2 1 (c :: C), nilA, nilA, vint .i64 7]), obP tS 1 (a :: A), obP tC 1 (c :: C)] [.ptr 0 13 0 0, .agg (pvs es_)] rfl ⟨?_, rfl, rfl, trivial⟩ ?_ hc fun r Hc' hp => ?_
    · show some (some _) = some (some (renO _ _ _))
      rw [hbx]; rfl
    · rw [hagg]; rfl
    · obtain ⟨rfl, rfl⟩ := hp
      refine ⟨Nat.le_of_ble_eq_true rfl, ?_⟩
      show K (vbool b) ([o0, o1, some (renO _ _ _), none, none, o5] ++ [some _, some _])
      rw [hbx]
      exact hK2
/-- The same of a method that lets one slice grow, or leaves all as_ it is. -/
theorem call_grow {R R2 : List (List PV)} {z n : Nat} {g : Bool} {rest : List AV} {v : AV} (hrest : ∀ d rn, renL d rn rest = rest) (hv : ∀ d rn, renC d rn v = v)
    (hc : ACall P f (.ptr 0 13 0 0 :: rest) [bxL ty (pvs ps ++ slP 1 z R :: pvs qs), obP tS z R]
      (fun r H' => r = v ∧ H' = if g = true then [bxL ty (pvs ps ++ .ms 2 z 0 n :: pvs qs), none, some ⟨tS, z, false, .p R2⟩] else [bxL ty (pvs ps ++ slP 1 z R :: pvs qs), obP tS z R]))
    (h1 : g = false → R = [] → K v [o0, o1, bxL ty (pvs ps ++ slP 3 z R :: pvs qs), none, none])
    (h2 : g = false → K v [o0, o1, bxL ty (pvs ps ++ slP 3 z R :: pvs qs), obP tS z R])
    (h3 : g = true → R = [] → K v [o0, o1, bxL ty (pvs ps ++ .ms 5 z 0 n :: pvs qs), none, none, some ⟨tS, z, false, .p R2⟩])
    (h4 : g = true → K v [o0, o1, bxL ty (pvs ps ++ .ms 4 z 0 n :: pvs qs), none, some ⟨tS, z, false, .p R2⟩]) :
    vcFun P f (.ptr 2 13 0 0 :: rest) [o0, o1, bxL ty (pvs ps ++ slP 3 z R :: pvs qs), obP tS z R] K := by
  have hbx : ∀ {d : Nat} {rn : List Nat} {a : AV}, renO d rn ⟨ty, 13, false, .box (pvs ps ++ a :: pvs qs)⟩ = ⟨ty, 13, false, .box (pvs ps ++ renC d rn a :: pvs qs)⟩ := fun {d rn a} => by
    simp only [renO, renRows, renL_app, renL_pvs, renL]
  have hagg : ∀ {d : Nat} {rn : List Nat}, renL d rn (.ptr 0 13 0 0 :: rest) = .ptr (rn.getD 0 d) 13 0 0 :: rest := fun {d rn} => by
    simp only [renL, renC, hrest]
  cases R with
  | nil =>
    have hc := ACall.none1 (H := [_]) hc
    refine call_obj [2] [bxL ty (pvs ps ++ slP 1 z [] :: pvs qs)] (.ptr 0 13 0 0 :: rest) rfl ⟨?_, trivial⟩ ?_ hc fun r Hc' hp => ?_
    · show some (some _) = some (some (renO _ _ _))
      rw [hbx]; rfl
    · rw [hagg]; rfl
    · obtain ⟨rfl, rfl⟩ := hp
      cases g
      · refine ⟨Nat.le_of_ble_eq_true rfl, ?_⟩
        show K (renC _ _ r) ([o0, o1, some (renO _ _ _), none] ++ [none])
        rw [hbx, hv]
        exact h1 rfl rfl
      · refine ⟨Nat.le_of_ble_eq_true rfl, ?_⟩
        show K (renC _ _ r) ([o0, o1, some (renO _ _ _), none] ++ [none, some _])
        rw [hbx, hv]
        exact h3 rfl rfl
  | cons a A =>
    refine call_obj [2, 3] [bxL ty (pvs ps ++ slP 1 z (a :: A) :: pvs qs), obP tS z (a :: A)] (.ptr 0 13 0 0 :: rest) rfl ⟨?_, rfl, trivial⟩ ?_ hc fun r Hc' hp => ?_
    · show some (some _) = some (some (renO _ _ _))
      rw [hbx]; rfl
    · rw [hagg]; rfl
    · obtain ⟨rfl, rfl⟩ := hp
      cases g
      · refine ⟨Nat.le_of_ble_eq_true rfl, ?_⟩
        show K (renC _ _ r) ([o0, o1, some (renO _ _ _), some _] ++ [])
        rw [hbx, hv]
        exact h2 rfl
      · refine ⟨Nat.le_of_ble_eq_true rfl, ?_⟩
        show K (renC _ _ r) ([o0, o1, some (renO _ _ _), none] ++ [some _])
        rw [hbx, hv]
        exact h4 rfl
end
end Go.Proofs.YtpnghlibmpainaaGreat.Cw

/-
  Contracts: the model of examinations, by the builder.
-/
namespace Go.Proofs.YtpnghlibmpainaaGreat.Cw
open Go Go.Cw Go.Proofs
set_option linter.unusedVariables false
set_option maxRecDepth 100000
set_option maxHeartbeats 20000000

theorem ren_bxC {d i z : Nat} {rn : List Nat} {r : List (List PV)} {p0 p1 p2 p3 p4 p5 p6 p7 p8 p9 p10 p11 : PV} : renL d rn [.pv p0, .pv p1, .pv p2, .pv p3, .pv p4, .pv p5, .pv p6, .pv p7, .pv p8, slP i z r, .pv p9, .pv p10, .pv p11] = [.pv p0, .pv p1, .pv p2, .pv p3, .pv p4, .pv p5, .pv p6, .pv p7, .pv p8, slP (rn.getD i d) z r, .pv p9, .pv p10, .pv p11] := by simp [renL, renC, ren_sl]
def zeroM : List PV := [.val (.slice none 0 0), .val (.slice none 0 0), .val (.slice none 0 0), ei 0]
theorem le_zeroM : ALeL (pvs zeroM) (pvs (Model.cells ⟨[], [], [], 0⟩)) := ⟨ALe.pv PLe.nil, ALe.pv PLe.nil, ALe.pv PLe.nil, ALe.refl, trivial⟩
noncomputable def rowsA (x : Exams) (i : Nat) : List (List PV) := (x.exams.take i).map fun e => seatsRow (seatsV x e)
noncomputable def rowsC (x : Exams) (i : Nat) : List (List PV) := (x.exams.take i).map fun e => [.sl 6 (rowsO x (seatsV x e))]
theorem rowsA_succ {x : Exams} {i : Nat} {e : Exam} (h : x.exams[i]? = some e) : rowsA x (i + 1) = rowsA x i ++ [seatsRow (seatsV x e)] := by unfold rowsA; rw [take_snoc h, map_snoc]
theorem rowsC_succ {x : Exams} {i : Nat} {e : Exam} (h : x.exams[i]? = some e) : rowsC x (i + 1) = rowsC x i ++ [[.sl 6 (rowsO x (seatsV x e))]] := by unfold rowsC; rw [take_snoc h, map_snoc]
theorem rowsA_len {x : Exams} {i : Nat} : (rowsA x i).length ≤ i := by unfold rowsA; rw [List.length_map]; exact List.length_take_le ..
theorem rowsC_len {x : Exams} {i : Nat} : (rowsC x i).length ≤ i := by unfold rowsC; rw [List.length_map]; exact List.length_take_le ..
theorem bad_build {x : Exams} {i : Nat} {e : Exam} (h0 : examsE x = 0) (hall : ∀ j, j < i → sizeE x j = 0) (he : x.exams[i]? = some e) (h : ¬ (seatsV x e).length ≤ 24) : buildE x = 2 ∧ buildM x = ⟨[], [], [], 0⟩ := by
  have hi := (List.getElem?_eq_some_iff.1 he).1
  have hs : sizeE x i = 2 := by rw [sizeE_at he, if_pos (by omega)]
  have e2 : buildE x = 2 := by
    unfold buildE
    rw [if_neg (by simp [h0]), firstE_at hall (by rw [hs]; decide) hi, hs]
  exact ⟨e2, by unfold buildM; rw [e2]; exact if_neg (by decide)⟩
theorem rowsA_all {x : Exams} : rowsA x x.exams.length = (setsX x).map seatsRow := by unfold rowsA setsX; rw [List.take_length, List.map_map]; rfl
theorem le_rowsC {x : Exams} : PLeLL (rowsC x x.exams.length) ((clsX x).map optsRow) := by
  unfold rowsC clsX
  rw [List.take_length, List.map_map]
  refine PLeLL.map fun e _ => ⟨PLe.sl ?_, trivial⟩
  have h := le_optB (l := (seatsV x e).map (optS x))
  rw [List.map_map] at h
  exact h
theorem seats_sit {x : Exams} {e : Exam} {s : Seat} (h : s ∈ seatsV x e) : ∃ t, x.sits[s.sit]? = some t := by
  obtain ⟨i, -, h⟩ := gr_mem.1 h
  unfold seatsI at h
  split at h
  · rename_i t ht
    obtain ⟨k, r, -, -, hf⟩ := upto_mem.1 h
    unfold seatF at hf
    split at hf
    · injection hf with hf
      subst hf
      exact ⟨t, ht⟩
    · cases hf
  · cases h
theorem good_build {x : Exams} (h0 : examsE x = 0) (hall : ∀ j, j < x.exams.length → sizeE x j = 0) : buildE x = 0 ∧ buildM x = ⟨clsX x, prsU (setsX x) (entX x) 7, cntS (setsX x) (wtX x) (mostX x) x.rooms.length x.sits.length, 7⟩ ∧ ∀ e ∈ x.exams, (seatsV x e).length ≤ 24 := by
  have e1 : buildE x = 0 := by
    unfold buildE
    rw [if_neg (by simp [h0])]
    exact firstE_zero hall
  exact ⟨e1, by unfold buildM; exact if_pos e1, (build_z e1).2⟩
theorem c_build0 (x : Exams) (h0 : examsE x = 0) (hl : LensX x) (h6 : x.exams.length ≤ 6) : PCall Tryz.prog 20 [ag x.cells] (fun a => Leq a (.tup [ag (buildM x).cells, vint .i64 (buildE x)])) := by
  have h1 := c_exams x
  rw [h0] at h1
  refine acall_of tok mixed 105 rfl (fn := Tryz.f20) (c := Tryz.f20.body.getD .skip) (by kernel_rfl) (by kernel_rfl) (by kernel_rfl) rfl 0 rfl ?_
  repeat' (first | refine o1 ?_ | refine o2 ?_ | refine k1 ?_ | refine k2 ?_ | refine k3 ?_ | refine k4 ?_ | refine k6 ?_ | refine And.intro ?_ ?_ | (intro h; first | exact Bool.noConfusion h | exact nz _ h | exact nl h | (simp at h; done) | (simp at h; first | (exfalso; omega) | skip) | skip) | exact (by kernel_rfl : drawOk _ _ = true) | refine eqv_len_map ?_ | (change vcFun _ _ _ _ _; refine call_eq rfl (by repeat' (first | trivial | refine And.intro ?_ ?_ | (show 0 + _ ≤ List.length _; simp))) ALeL.refl (h1) rfl ?_) | fail)
  refine loop_for (fun i : Nat => [(1, .ptr 0 8 0 0), (2, .ptr 1 4 0 0), (3, vint .i64 0), (5, .ptr 2 13 0 0), (28, .pv (.sl 4 (x.exams.map Exam.row))), (29, vint .i64 x.exams.length), (30, vint .i64 i)])
    (fun i => [some ⟨33, 8, false, .box (pvs x.cells)⟩, some ⟨51, 4, false, .box (pvs zeroM)⟩, some ⟨102, 13, false, .box (pvs x.cells ++ [slP 3 1 (rowsA x i), slP 4 1 (rowsC x i), nilA, nilA, vint .i64 7])⟩, obP 155 1 (rowsA x i), obP 73 1 (rowsC x i)])
    (fun i => i ≤ x.exams.length ∧ ∀ j, j < i → sizeE x j = 0) (fun i => x.exams.length - i) 0 ⟨Nat.zero_le _, fun j hj => by omega⟩ ?_ ?_
  · exact back [0, 1, 2, 3, 4] rfl rfl (by repeat' (first | exact trivial | exact rfl | refine kept_bx ren_bxO rfl ?_ | refine And.intro ?_ ?_)) (by repeat' (first | exact trivial | exact rfl | refine And.intro ?_ ?_))
  intro i ⟨hi, hall⟩
  have la := rowsA_len (x := x) (i := i)
  have lc := rowsC_len (x := x) (i := i)
  rcases Nat.lt_or_ge i x.exams.length with hlt | hge
  · obtain ⟨e, he⟩ := getE hlt
    have hef := (hl.exam e (List.mem_of_getElem? he)).1
    have hopt := c_options x e (rowsA x i) (rowsC x i) hl hef (by omega) (by omega)
    have hsz := sizeE_at he
    have hbad := bad_build h0 hall he
    have hA := rowsA_succ he
    have hC := rowsC_succ he
    have hsr : (rowsA x i = [] ∧ rowsC x i = []) ∨ ((∃ a A, rowsA x i = a :: A) ∧ ∃ c C, rowsC x i = c :: C) := by
      unfold rowsA rowsC
      cases hx : x.exams.take i with
      | nil => exact .inl ⟨rfl, rfl⟩
      | cons g gs => exact .inr ⟨⟨_, _, rfl⟩, ⟨_, _, rfl⟩⟩
    generalize rowsA x i = SA at *
    generalize rowsC x i = SC at *
    unfold bxO at hopt
    rw [sl_app, sl_app, ob_app, ob_app] at hopt
    by_cases hb : (seatsV x e).length ≤ 24
    · rw [decide_eq_true hb] at hopt
      repeat' (first | (refine fh_ob ?_) | ((change vcFun _ _ _ _ _; refine call_opts (ps := x.cells) (es_ := e.row) (SA := SA) (SC := SC) hsr hopt (fun _ _ => ?_) ?_)) | refine o1 ?_ | refine o2 ?_ | refine k1 ?_ | refine k2 ?_ | refine k3 ?_ | refine k4 ?_ | refine k6 ?_ | refine And.intro ?_ ?_ | (intro h; first | exact Bool.noConfusion h | exact nz _ h | exact nl h | (simp at h; done) | (simp at h; first | (exfalso; omega) | skip) | skip) | exact (by kernel_rfl : drawOk _ _ = true) | refine eqv_wrap (by omega) (by omega) ?_ | refine ⟨_, _, (by first | rfl | assumption), at_map (by assumption), ?_⟩ | fail)
      · refine ⟨i + 1, ⟨by omega, all_lt_succ hall (by rw [hsz, if_neg (by omega)])⟩, by omega, ?_⟩
        rw [hA, hC, sl_app, sl_app, ob_app, ob_app]
        exact back [0, 1, 2, 8, 9] rfl rfl (by repeat' (first | exact trivial | exact rfl | refine And.intro ?_ ?_)) (by repeat' (first | exact trivial | exact rfl | refine And.intro ?_ ?_))
      · refine ⟨i + 1, ⟨by omega, all_lt_succ hall (by rw [hsz, if_neg (by omega)])⟩, by omega, ?_⟩
        rw [hA, hC, sl_app, sl_app, ob_app, ob_app]
        exact back [0, 1, 2, 6, 7] rfl rfl (by repeat' (first | exact trivial | exact rfl | refine And.intro ?_ ?_)) (by repeat' (first | exact trivial | exact rfl | refine And.intro ?_ ?_))
    · rw [decide_eq_false hb] at hopt
      obtain ⟨e1, e2⟩ := hbad hb
      rw [e1, e2]
      repeat' (first | (refine fh_ob ?_) | ((change vcFun _ _ _ _ _; refine call_opts (ps := x.cells) (es_ := e.row) (SA := SA) (SC := SC) hsr hopt (fun _ _ => ?_) ?_)) | refine o1 ?_ | refine o2 ?_ | refine k1 ?_ | refine k2 ?_ | refine k3 ?_ | refine k4 ?_ | refine k6 ?_ | refine k7 ?_ | refine And.intro ?_ ?_ | (intro h; first | exact Bool.noConfusion h | exact nz _ h | exact nl h | (simp at h; done) | (simp at h; first | (exfalso; omega) | skip) | skip) | exact (by kernel_rfl : drawOk _ _ = true) | refine ⟨_, _, (by first | rfl | assumption), at_map (by assumption), ?_⟩ | fail)
      all_goals
        change retOk _ _ _ _; refine ret_pure rfl (by repeat' (first | exact True.intro | refine And.intro ?_ ?_)) ?_
        exact ⟨ALe.tup ⟨ALe.agg le_zeroM, ALe.refl, trivial⟩⟩
  · obtain rfl : i = x.exams.length := by omega
    obtain ⟨e1, e2, h24⟩ := good_build h0 hall
    rw [e1, e2, rowsA_all]
    have hle := le_rowsC (x := x)
    generalize rowsC x x.exams.length = CR at *
    have hSl : (setsX x).length = x.exams.length := List.length_map _
    have hSat : ∀ (i : Nat) A, (setsX x)[i]? = some A → ∃ e, x.exams[i]? = some e ∧ A.length ≤ 24 ∧ ∀ s ∈ A, ∃ t, x.sits[s.sit]? = some t := fun i A hA => by
      unfold setsX at hA
      rw [List.getElem?_map] at hA
      obtain ⟨e, he, rfl⟩ := Option.map_eq_some_iff.1 hA
      exact ⟨e, he, h24 e (List.mem_of_getElem? he), fun s hs => seats_sit hs⟩
    refine forceH_in ?_
    refine ghost_seq (Γ' := [(1, .ptr 0 8 0 0), (2, .ptr 1 4 0 0), (3, vint .i64 0), (5, .ptr 2 13 0 0), (29, vint .i64 x.exams.length), (30, vint .i64 x.exams.length)]) (H' := [some ⟨33, 8, false, .box (pvs x.cells)⟩, some ⟨51, 4, false, .box (pvs zeroM)⟩, some ⟨102, 13, false, .box (pvs x.cells ++ [.pv (.sl 1 ((setsX x).map seatsRow)), slP 3 1 CR, nilA, nilA, vint .i64 7])⟩, obP 73 1 CR])
      (Ghost.shut_sl (i := 2) (c := 8) (id := 3) rfl rfl rfl (by decide) fun H' hl h2 hH => back [0, 1, 2, 4] rfl rfl (And.intro (hH 0 (by decide) (by decide)) (And.intro (hH 1 (by decide) (by decide)) (kept_bx ren_bxC h2 (kept_ob (hH 4 (by decide) (by decide)) trivial)))) (by repeat' (first | exact trivial | exact rfl | refine And.intro ?_ ?_))) ?_
    refine ghost_seq (Γ' := [(1, .ptr 0 8 0 0), (2, .ptr 1 4 0 0), (3, vint .i64 0), (5, .ptr 2 13 0 0), (29, vint .i64 x.exams.length), (30, vint .i64 x.exams.length)]) (H' := [some ⟨33, 8, false, .box (pvs x.cells)⟩, some ⟨51, 4, false, .box (pvs zeroM)⟩, some ⟨102, 13, false, .box (pvs x.cells ++ [.pv (.sl 1 ((setsX x).map seatsRow)), .pv (.sl 1 CR), nilA, nilA, vint .i64 7])⟩])
      (Ghost.shut_sl (i := 2) (c := 9) (id := 3) rfl rfl rfl (by decide) fun H' hl h2 hH => back [0, 1, 2] rfl rfl (And.intro (hH 0 (by decide) (by decide)) (And.intro (hH 1 (by decide) (by decide)) (And.intro h2 trivial))) (by repeat' (first | exact trivial | exact rfl | refine And.intro ?_ ?_))) ?_
    repeat' (first | refine o1 ?_ | refine o2 ?_ | refine k1 ?_ | refine k2 ?_ | refine k3 ?_ | refine k4 ?_ | refine k8 ?_ | refine And.intro ?_ ?_ | (intro h; first | exact Bool.noConfusion h | exact nz _ h | exact nl h | (simp at h; done) | (simp at h; first | (exfalso; omega) | skip) | skip) | fail)
    refine loop_for (fun u : Nat => [(1, .ptr 0 8 0 0), (2, .ptr 1 4 0 0), (3, vint .i64 0), (5, .ptr 2 13 0 0), (40, vint .i64 u)]) (fun u => [some ⟨33, 8, false, .box (pvs x.cells)⟩, some ⟨51, 4, false, .box (pvs zeroM)⟩, some ⟨102, 13, false, .box (pvs x.cells ++ [.pv (.sl 1 ((setsX x).map seatsRow)), .pv (.sl 1 CR), slP 3 4 ((prsU (setsX x) (entX x) u).map Pair.row), nilA, vint .i64 7])⟩, obP 116 4 ((prsU (setsX x) (entX x) u).map Pair.row)]) (fun u => u ≤ 7) (fun u => 7 - u) 0 (by omega) ?_ ?_
    · exact back [0, 1, 2, 3] rfl rfl (by repeat' (first | exact trivial | exact rfl | refine kept_bx ren_bxY rfl ?_ | refine And.intro ?_ ?_)) (by repeat' (first | exact trivial | exact rfl | refine And.intro ?_ ?_))
    intro u hu
    have lu := prsU_len (S := setsX x) (E := entX x) (u := u)
    have hSS : (setsX x).length * (setsX x).length ≤ 6 * 6 := Nat.mul_le_mul (by omega) (by omega)
    have hSU : u * ((setsX x).length * (setsX x).length) ≤ 7 * (6 * 6) := Nat.mul_le_mul hu hSS
    rcases Nat.lt_or_ge u 7 with hu7 | hu7
    · repeat' (first | (refine fh_ob ?_) | refine o1 ?_ | refine o2 ?_ | refine k1 ?_ | refine k2 ?_ | refine k3 ?_ | refine k4 ?_ | refine k6 ?_ | refine And.intro ?_ ?_ | (intro h; first | exact Bool.noConfusion h | exact nz _ h | exact nl h | (simp at h; done) | (simp at h; first | (exfalso; omega) | skip) | skip) | refine eqv_len_map ?_ | fail)
      refine loop_for (fun i : Nat => [(1, .ptr 0 8 0 0), (2, .ptr 1 4 0 0), (3, vint .i64 0), (5, .ptr 2 13 0 0), (40, vint .i64 u), (8, vint .i64 u), (45, vint .i64 x.exams.length), (46, vint .i64 i)]) (fun i => [some ⟨33, 8, false, .box (pvs x.cells)⟩, some ⟨51, 4, false, .box (pvs zeroM)⟩, some ⟨102, 13, false, .box (pvs x.cells ++ [.pv (.sl 1 ((setsX x).map seatsRow)), .pv (.sl 1 CR), slP 3 4 ((prsUi (setsX x) (entX x) u i).map Pair.row), nilA, vint .i64 7])⟩, obP 116 4 ((prsUi (setsX x) (entX x) u i).map Pair.row)]) (fun i => i ≤ x.exams.length) (fun i => x.exams.length - i) 0 (Nat.zero_le _) ?_ ?_
      · rw [prsUi_zero]
        exact back [0, 1, 2, 3] rfl rfl (by repeat' (first | exact trivial | exact rfl | refine kept_ob rfl ?_ | refine kept_bx ren_bxY rfl ?_ | refine And.intro ?_ ?_)) (by repeat' (first | exact trivial | exact rfl | refine And.intro ?_ ?_))
      intro i hi
      rcases Nat.lt_or_ge i x.exams.length with hil | hig
      · repeat' (first | (refine fh_ob ?_) | refine o1 ?_ | refine o2 ?_ | refine k1 ?_ | refine k2 ?_ | refine k3 ?_ | refine k4 ?_ | refine k6 ?_ | refine And.intro ?_ ?_ | (intro h; first | exact Bool.noConfusion h | exact nz _ h | exact nl h | (simp at h; done) | (simp at h; first | (exfalso; omega) | skip) | skip) | refine eqv_wrap (by omega) (by omega) ?_ | fail)
        refine loop_for (fun k : Nat => [(1, .ptr 0 8 0 0), (2, .ptr 1 4 0 0), (3, vint .i64 0), (5, .ptr 2 13 0 0), (40, vint .i64 u), (8, vint .i64 u), (45, vint .i64 x.exams.length), (46, vint .i64 i), (9, vint .i64 i), (10, vint .i64 k)]) (fun k => [some ⟨33, 8, false, .box (pvs x.cells)⟩, some ⟨51, 4, false, .box (pvs zeroM)⟩, some ⟨102, 13, false, .box (pvs x.cells ++ [.pv (.sl 1 ((setsX x).map seatsRow)), .pv (.sl 1 CR), slP 3 4 ((prsUk (setsX x) (entX x) u i k).map Pair.row), nilA, vint .i64 7])⟩, obP 116 4 ((prsUk (setsX x) (entX x) u i k).map Pair.row)]) (fun k => i + 1 ≤ k ∧ k ≤ x.exams.length) (fun k => x.exams.length - k) (i + 1) ⟨Nat.le_refl _, hil⟩ ?_ ?_
        · rw [prsUk_begin]
          exact back [0, 1, 2, 3] rfl rfl (by repeat' (first | exact trivial | exact rfl | refine kept_ob rfl ?_ | refine kept_bx ren_bxY rfl ?_ | refine And.intro ?_ ?_)) (by repeat' (first | exact trivial | exact rfl | refine And.intro ?_ ?_))
        intro k ⟨hk1, hk2⟩
        have lk := prsUk_len (S := setsX x) (E := entX x) (u := u) (i := i) (k := k) (by omega) (by omega)
        have hUU : (u + 1) * ((setsX x).length * (setsX x).length) ≤ 8 * (6 * 6) := Nat.mul_le_mul (by omega) hSS
        rcases Nat.lt_or_ge k x.exams.length with hkl | hkg
        · obtain ⟨A, hA⟩ := getE (show i < (setsX x).length by omega)
          obtain ⟨Bk, hBk⟩ := getE (show k < (setsX x).length by omega)
          obtain ⟨e, he, hAl, hsA⟩ := hSat i A hA
          obtain ⟨f, hf, hBl, hsB⟩ := hSat k Bk hBk
          have hpr := c_pair x (.sl 1 CR) ((prsUk (setsX x) (entX x) u i k).map Pair.row) u i k A Bk e f h0 hA hBk he hf hAl hBl hsA hsB (by rw [List.length_map]; omega)
          have hpo : ((tabS (entX x) u i k A Bk).any fun n => n != 0) = true → prsUk (setsX x) (entX x) u i (k + 1) = prsUk (setsX x) (entX x) u i k ++ [⟨i, k, u, tabS (entX x) u i k A Bk⟩] := fun h => prsUk_some (by unfold pairS; rw [hA, hBk]; exact if_pos ⟨by omega, h⟩)
          have hpn : ((tabS (entX x) u i k A Bk).any fun n => n != 0) = false → prsUk (setsX x) (entX x) u i (k + 1) = prsUk (setsX x) (entX x) u i k := fun h => prsUk_none (by unfold pairS; rw [hA, hBk]; exact if_neg fun q => by rw [h] at q; cases q.2)
          have hpo : ((tabS (entX x) u i k A Bk).any fun n => n != 0) = true → (prsUk (setsX x) (entX x) u i (k + 1)).map Pair.row = (prsUk (setsX x) (entX x) u i k).map Pair.row ++ [Pair.row ⟨i, k, u, tabS (entX x) u i k A Bk⟩] := fun h => by rw [hpo h, map_snoc]
          have hpn : ((tabS (entX x) u i k A Bk).any fun n => n != 0) = false → (prsUk (setsX x) (entX x) u i (k + 1)).map Pair.row = (prsUk (setsX x) (entX x) u i k).map Pair.row := fun h => by rw [hpn h]
          unfold bxP at hpr
          rw [sl_app, ob_app] at hpr
          generalize tabS (entX x) u i k A Bk = TB at *
          generalize (TB.any fun n => n != 0) = g at *
          generalize (prsUk (setsX x) (entX x) u i k).map Pair.row = PR at *
          repeat' (first | (refine fh_ob ?_) | ((change vcFun _ _ _ _ _; refine call_grow (ps := x.cells ++ [.sl 1 ((setsX x).map seatsRow), .sl 1 CR]) (qs := [.val (.slice none 0 0), ei 7]) (R := PR) (rest := [vint .i64 u, vint .i64 i, vint .i64 k]) (v := .tup []) (fun _ _ => rfl) (fun _ _ => rfl) hpr (fun hg hR => ?_) (fun hg => ?_) (fun hg hR => ?_) (fun hg => ?_))) | refine o1 ?_ | refine o2 ?_ | refine k1 ?_ | refine k2 ?_ | refine k3 ?_ | refine k4 ?_ | refine k6 ?_ | refine And.intro ?_ ?_ | (intro h; first | exact Bool.noConfusion h | exact nz _ h | exact nl h | (simp at h; done) | (simp at h; first | (exfalso; omega) | skip) | skip) | refine eqv_len_map ?_ | refine eqv_wrap (by omega) (by omega) ?_ | fail)
          · subst hR
            refine ⟨k + 1, ⟨by omega, by omega⟩, by omega, ?_⟩
            rw [hpn hg]
            exact back [0, 1, 2, 3] rfl rfl (by repeat' (first | exact trivial | exact rfl | refine kept_bx ren_bxY rfl ?_ | refine And.intro ?_ ?_)) (by repeat' (first | exact trivial | exact rfl | refine And.intro ?_ ?_))
          · refine ⟨k + 1, ⟨by omega, by omega⟩, by omega, ?_⟩
            rw [hpn hg]
            exact back [0, 1, 2, 3] rfl rfl (by repeat' (first | exact trivial | exact rfl | refine kept_ob rfl ?_ | refine kept_bx ren_bxY rfl ?_ | refine And.intro ?_ ?_)) (by repeat' (first | exact trivial | exact rfl | refine And.intro ?_ ?_))
          · subst hR
            refine ⟨k + 1, ⟨by omega, by omega⟩, by omega, ?_⟩
            rw [hpo hg, sl_app, ob_app]
            exact back [0, 1, 2, 5] rfl rfl (by repeat' (first | exact trivial | exact rfl | refine And.intro ?_ ?_)) (by repeat' (first | exact trivial | exact rfl | refine And.intro ?_ ?_))
          · refine ⟨k + 1, ⟨by omega, by omega⟩, by omega, ?_⟩
            rw [hpo hg, sl_app, ob_app]
            exact back [0, 1, 2, 4] rfl rfl (by repeat' (first | exact trivial | exact rfl | refine And.intro ?_ ?_)) (by repeat' (first | exact trivial | exact rfl | refine And.intro ?_ ?_))
        · obtain rfl : k = x.exams.length := by omega
          repeat' (first | (refine fh_ob ?_) | refine o1 ?_ | refine o2 ?_ | refine k1 ?_ | refine k2 ?_ | refine k3 ?_ | refine k8 ?_ | refine And.intro ?_ ?_ | (intro h; first | exact Bool.noConfusion h | exact nz _ h | exact nl h | (simp at h; done) | (simp at h; first | (exfalso; omega) | skip) | skip) | refine eqv_len_map ?_ | refine eqv_wrap (by omega) (by omega) ?_ | fail)
          refine ⟨i + 1, by omega, by omega, ?_⟩
          rw [← hSl, prsUk_all, hSl]
          exact back [0, 1, 2, 3] rfl rfl (by repeat' (first | exact trivial | exact rfl | refine kept_ob rfl ?_ | refine kept_bx ren_bxY rfl ?_ | refine And.intro ?_ ?_)) (by repeat' (first | exact trivial | exact rfl | refine And.intro ?_ ?_))
      · obtain rfl : i = x.exams.length := by omega
        repeat' (first | (refine fh_ob ?_) | refine o1 ?_ | refine o2 ?_ | refine k1 ?_ | refine k2 ?_ | refine k3 ?_ | refine k8 ?_ | refine And.intro ?_ ?_ | (intro h; first | exact Bool.noConfusion h | exact nz _ h | exact nl h | (simp at h; done) | (simp at h; first | (exfalso; omega) | skip) | skip) | refine eqv_wrap (by omega) (by omega) ?_ | fail)
        refine ⟨u + 1, by omega, by omega, ?_⟩
        rw [← hSl, prsUi_all, hSl]
        exact back [0, 1, 2, 3] rfl rfl (by repeat' (first | exact trivial | exact rfl | refine kept_ob rfl ?_ | refine kept_bx ren_bxY rfl ?_ | refine And.intro ?_ ?_)) (by repeat' (first | exact trivial | exact rfl | refine And.intro ?_ ?_))
    · obtain rfl : u = 7 := by omega
      have hpl : (prsU (setsX x) (entX x) 7).length ≤ 4000 := by omega
      refine forceH_in ?_
      generalize prsU (setsX x) (entX x) 7 = P0 at *
      refine ghost_seq (Γ' := [(1, .ptr 0 8 0 0), (2, .ptr 1 4 0 0), (3, vint .i64 0), (5, .ptr 2 13 0 0), (40, vint .i64 7)]) (H' := [some ⟨33, 8, false, .box (pvs x.cells)⟩, some ⟨51, 4, false, .box (pvs zeroM)⟩, some ⟨102, 13, false, .box (pvs x.cells ++ [.pv (.sl 1 ((setsX x).map seatsRow)), .pv (.sl 1 CR), .pv (.sl 4 (P0.map Pair.row)), nilA, vint .i64 7])⟩])
        (Ghost.shut_sl (i := 2) (c := 10) (id := 3) rfl rfl rfl (by decide) fun H' hl h2 hH => back [0, 1, 2] rfl rfl (And.intro (hH 0 (by decide) (by decide)) (And.intro (hH 1 (by decide) (by decide)) (And.intro h2 trivial))) (by repeat' (first | exact trivial | exact rfl | refine And.intro ?_ ?_))) ?_
      repeat' (first | refine o1 ?_ | refine o2 ?_ | refine k1 ?_ | refine k2 ?_ | refine k3 ?_ | refine k4 ?_ | refine k8 ?_ | refine And.intro ?_ ?_ | (intro h; first | exact Bool.noConfusion h | exact nz _ h | exact nl h | (simp at h; done) | (simp at h; first | (exfalso; omega) | skip) | skip) | refine eqv_len_map ?_ | fail)
      refine loop_for (fun a : Nat => [(1, .ptr 0 8 0 0), (2, .ptr 1 4 0 0), (3, vint .i64 0), (5, .ptr 2 13 0 0), (67, vint .i64 x.sits.length), (68, vint .i64 a)]) (fun a => [some ⟨33, 8, false, .box (pvs x.cells)⟩, some ⟨51, 4, false, .box (pvs zeroM)⟩, some ⟨102, 13, false, .box (pvs x.cells ++ [.pv (.sl 1 ((setsX x).map seatsRow)), .pv (.sl 1 CR), .pv (.sl 4 (P0.map Pair.row)), slP 3 4 ((cntS (setsX x) (wtX x) (mostX x) x.rooms.length a).map Count.row), vint .i64 7])⟩, obP 120 4 ((cntS (setsX x) (wtX x) (mostX x) x.rooms.length a).map Count.row)]) (fun a => a ≤ x.sits.length) (fun a => x.sits.length - a) 0 (Nat.zero_le _) ?_ ?_
      · exact back [0, 1, 2, 3] rfl rfl (by repeat' (first | exact trivial | exact rfl | refine kept_bx ren_bxZ rfl ?_ | refine And.intro ?_ ?_)) (by repeat' (first | exact trivial | exact rfl | refine And.intro ?_ ?_))
      intro a ha
      have hsn := hl.sits
      have hrn := hl.rooms
      have ln := cntS_len (S := setsX x) (W := wtX x) (most := mostX x) (R := x.rooms.length) (s := a)
      have lb : a * x.rooms.length ≤ 24 * 16 := Nat.mul_le_mul (by omega) hrn
      rcases Nat.lt_or_ge a x.sits.length with hal | hag
      · repeat' (first | (refine fh_ob ?_) | refine o1 ?_ | refine o2 ?_ | refine k1 ?_ | refine k2 ?_ | refine k3 ?_ | refine k4 ?_ | refine k6 ?_ | refine And.intro ?_ ?_ | (intro h; first | exact Bool.noConfusion h | exact nz _ h | exact nl h | (simp at h; done) | (simp at h; first | (exfalso; omega) | skip) | skip) | refine eqv_len_map ?_ | fail)
        refine loop_for (fun c : Nat => [(1, .ptr 0 8 0 0), (2, .ptr 1 4 0 0), (3, vint .i64 0), (5, .ptr 2 13 0 0), (67, vint .i64 x.sits.length), (68, vint .i64 a), (11, vint .i64 a), (73, vint .i64 x.rooms.length), (74, vint .i64 c)]) (fun c => [some ⟨33, 8, false, .box (pvs x.cells)⟩, some ⟨51, 4, false, .box (pvs zeroM)⟩, some ⟨102, 13, false, .box (pvs x.cells ++ [.pv (.sl 1 ((setsX x).map seatsRow)), .pv (.sl 1 CR), .pv (.sl 4 (P0.map Pair.row)), slP 3 4 ((cntS (setsX x) (wtX x) (mostX x) x.rooms.length a ++ cntI (setsX x) (wtX x) (mostX x) a c).map Count.row), vint .i64 7])⟩, obP 120 4 ((cntS (setsX x) (wtX x) (mostX x) x.rooms.length a ++ cntI (setsX x) (wtX x) (mostX x) a c).map Count.row)]) (fun c => c ≤ x.rooms.length) (fun c => x.rooms.length - c) 0 (Nat.zero_le _) ?_ ?_
        · rw [show cntI (setsX x) (wtX x) (mostX x) a 0 = [] from rfl, List.append_nil]
          exact back [0, 1, 2, 3] rfl rfl (by repeat' (first | exact trivial | exact rfl | refine kept_ob rfl ?_ | refine kept_bx ren_bxZ rfl ?_ | refine And.intro ?_ ?_)) (by repeat' (first | exact trivial | exact rfl | refine And.intro ?_ ?_))
        intro c hc
        have li := cntI_len (S := setsX x) (W := wtX x) (most := mostX x) (s := a) (m := c)
        have lt2 : (cntS (setsX x) (wtX x) (mostX x) x.rooms.length a ++ cntI (setsX x) (wtX x) (mostX x) a c).length ≤ 1000 := by rw [List.length_append]; omega
        rcases Nat.lt_or_ge c x.rooms.length with hcl | hcg
        · have hct := c_count x (.sl 1 CR) (.sl 4 (P0.map Pair.row)) ((cntS (setsX x) (wtX x) (mostX x) x.rooms.length a ++ cntI (setsX x) (wtX x) (mostX x) a c).map Count.row) a c hl hcl (fun A hA => by
            obtain ⟨i, hi⟩ := List.getElem?_of_mem hA
            obtain ⟨e, -, h, -⟩ := hSat i A hi
            exact h) (by omega) (by rw [List.length_map]; omega)
          have hco : decide (1 < (loadsS (setsX x) (wtX x) a c (setsX x).length).length) = true → (cntS (setsX x) (wtX x) (mostX x) x.rooms.length a ++ cntI (setsX x) (wtX x) (mostX x) a (c + 1)).map Count.row = (cntS (setsX x) (wtX x) (mostX x) x.rooms.length a ++ cntI (setsX x) (wtX x) (mostX x) a c).map Count.row ++ [Count.row ⟨1, loadsS (setsX x) (wtX x) a c (setsX x).length, mostX x c, 1099511627776⟩] := fun h => by
            rw [cntI_some (show countS (setsX x) (wtX x) (mostX x) a c = some _ from if_pos (by simpa using h)), ← List.append_assoc, map_snoc]
          have hcn : decide (1 < (loadsS (setsX x) (wtX x) a c (setsX x).length).length) = false → (cntS (setsX x) (wtX x) (mostX x) x.rooms.length a ++ cntI (setsX x) (wtX x) (mostX x) a (c + 1)).map Count.row = (cntS (setsX x) (wtX x) (mostX x) x.rooms.length a ++ cntI (setsX x) (wtX x) (mostX x) a c).map Count.row := fun h => by
            rw [cntI_none (show countS (setsX x) (wtX x) (mostX x) a c = none from if_neg (by simpa using h))]
          rw [sl_app, ob_app] at hct
          have hct : ACall Tryz.prog 48 [.ptr 0 13 0 0, ag (Seat.row ⟨a, c⟩)] _ (fun r H' => r = .tup [] ∧ H' = if decide (1 < (loadsS (setsX x) (wtX x) a c (setsX x).length).length) = true then _ else _) := ACall.mono hct fun r H' h => ⟨h.1, h.2.trans (by simp only [decide_eq_true_eq]; rfl)⟩
          generalize loadsS (setsX x) (wtX x) a c (setsX x).length = LL at *
          generalize decide (1 < LL.length) = g at *
          generalize (cntS (setsX x) (wtX x) (mostX x) x.rooms.length a ++ cntI (setsX x) (wtX x) (mostX x) a c).map Count.row = NR at *
          repeat' (first | (refine fh_ob ?_) | ((change vcFun _ _ _ _ _; refine call_grow (ps := x.cells ++ [.sl 1 ((setsX x).map seatsRow), .sl 1 CR, .sl 4 (P0.map Pair.row)]) (qs := [ei 7]) (R := NR) (rest := [ag (Seat.row ⟨a, c⟩)]) (v := .tup []) (fun _ _ => rfl) (fun _ _ => rfl) hct (fun hg hR => ?_) (fun hg => ?_) (fun hg hR => ?_) (fun hg => ?_))) | refine o1 ?_ | refine o2 ?_ | refine k1 ?_ | refine k2 ?_ | refine k3 ?_ | refine k4 ?_ | refine k6 ?_ | refine And.intro ?_ ?_ | (intro h; first | exact Bool.noConfusion h | exact nz _ h | exact nl h | (simp at h; done) | (simp at h; first | (exfalso; omega) | skip) | skip) | refine eqv_wrap (by omega) (by omega) ?_ | fail)
          · subst hR
            refine ⟨c + 1, by omega, by omega, ?_⟩
            rw [hcn hg]
            exact back [0, 1, 2, 3] rfl rfl (by repeat' (first | exact trivial | exact rfl | refine kept_bx ren_bxZ rfl ?_ | refine And.intro ?_ ?_)) (by repeat' (first | exact trivial | exact rfl | refine And.intro ?_ ?_))
          · refine ⟨c + 1, by omega, by omega, ?_⟩
            rw [hcn hg]
            exact back [0, 1, 2, 3] rfl rfl (by repeat' (first | exact trivial | exact rfl | refine kept_ob rfl ?_ | refine kept_bx ren_bxZ rfl ?_ | refine And.intro ?_ ?_)) (by repeat' (first | exact trivial | exact rfl | refine And.intro ?_ ?_))
          · subst hR
            refine ⟨c + 1, by omega, by omega, ?_⟩
            rw [hco hg, sl_app, ob_app]
            exact back [0, 1, 2, 5] rfl rfl (by repeat' (first | exact trivial | exact rfl | refine And.intro ?_ ?_)) (by repeat' (first | exact trivial | exact rfl | refine And.intro ?_ ?_))
          · refine ⟨c + 1, by omega, by omega, ?_⟩
            rw [hco hg, sl_app, ob_app]
            exact back [0, 1, 2, 4] rfl rfl (by repeat' (first | exact trivial | exact rfl | refine And.intro ?_ ?_)) (by repeat' (first | exact trivial | exact rfl | refine And.intro ?_ ?_))
        · obtain rfl : c = x.rooms.length := by omega
          repeat' (first | (refine fh_ob ?_) | refine o1 ?_ | refine o2 ?_ | refine k1 ?_ | refine k2 ?_ | refine k3 ?_ | refine k8 ?_ | refine And.intro ?_ ?_ | (intro h; first | exact Bool.noConfusion h | exact nz _ h | exact nl h | (simp at h; done) | (simp at h; first | (exfalso; omega) | skip) | skip) | refine eqv_wrap (by omega) (by omega) ?_ | fail)
          refine ⟨a + 1, by omega, by omega, ?_⟩
          rw [show cntS (setsX x) (wtX x) (mostX x) x.rooms.length (a + 1) = cntS (setsX x) (wtX x) (mostX x) x.rooms.length a ++ cntI (setsX x) (wtX x) (mostX x) a x.rooms.length from gr_succ]
          exact back [0, 1, 2, 3] rfl rfl (by repeat' (first | exact trivial | exact rfl | refine kept_ob rfl ?_ | refine kept_bx ren_bxZ rfl ?_ | refine And.intro ?_ ?_)) (by repeat' (first | exact trivial | exact rfl | refine And.intro ?_ ?_))
      · obtain rfl : a = x.sits.length := by omega
        have hnl : (cntS (setsX x) (wtX x) (mostX x) x.rooms.length x.sits.length).length ≤ 800 := by omega
        generalize cntS (setsX x) (wtX x) (mostX x) x.rooms.length x.sits.length = N0 at *
        refine forceH_in ?_
        refine ghost_seq (Γ' := [(1, .ptr 0 8 0 0), (2, .ptr 1 4 0 0), (3, vint .i64 0), (5, .ptr 2 13 0 0), (67, vint .i64 x.sits.length), (68, vint .i64 x.sits.length)]) (H' := [some ⟨33, 8, false, .box (pvs x.cells)⟩, some ⟨51, 4, false, .box (pvs zeroM)⟩, some ⟨102, 13, false, .box (pvs x.cells ++ [.pv (.sl 1 ((setsX x).map seatsRow)), .pv (.sl 1 CR), .pv (.sl 4 (P0.map Pair.row)), .pv (.sl 4 (N0.map Count.row)), vint .i64 7])⟩])
          (Ghost.shut_sl (i := 2) (c := 11) (id := 3) rfl rfl rfl (by decide) fun H' hl h2 hH => back [0, 1, 2] rfl rfl (And.intro (hH 0 (by decide) (by decide)) (And.intro (hH 1 (by decide) (by decide)) (And.intro h2 trivial))) (by repeat' (first | exact trivial | exact rfl | refine And.intro ?_ ?_))) ?_
        repeat' (first | refine o1 ?_ | refine o2 ?_ | refine k1 ?_ | refine k2 ?_ | refine k3 ?_ | refine k6 ?_ | refine k7 ?_ | refine k8 ?_ | refine And.intro ?_ ?_ | (intro h; first | exact Bool.noConfusion h | exact nz _ h | exact nl h | (simp at h; done) | (simp at h; first | (exfalso; omega) | skip) | skip) | refine eqv_len_map ?_ | fail)
        all_goals
          change retOk _ _ _ _; refine ret_pure rfl (by repeat' (first | exact True.intro | refine And.intro ?_ ?_)) ?_
          exact ⟨ALe.tup ⟨ALe.agg ⟨ALe.pv (PLe.sl hle), ALe.refl, ALe.refl, ALe.refl, trivial⟩, ALe.refl, trivial⟩⟩
theorem c_build1 (x : Exams) (h : ¬ examsE x = 0) : PCall Tryz.prog 20 [ag x.cells] (fun a => Leq a (.tup [ag (buildM x).cells, vint .i64 (buildE x)])) := by
  have h1 := c_exams x
  have e1 : buildE x = examsE x := by unfold buildE; rw [if_pos h]
  have e2 : buildM x = ⟨[], [], [], 0⟩ := by unfold buildM; rw [e1]; exact if_neg h
  rw [e1, e2]
  generalize examsE x = E at *
  refine acall_of tok mixed 105 rfl (fn := Tryz.f20) (c := Tryz.f20.body.getD .skip) (by kernel_rfl) (by kernel_rfl) (by kernel_rfl) rfl 0 rfl ?_
  repeat' (first | refine o1 ?_ | refine o2 ?_ | refine k1 ?_ | refine k2 ?_ | refine k3 ?_ | refine k7 ?_ | refine And.intro ?_ ?_ | (intro h; first | exact Bool.noConfusion h | exact nz _ h | exact nl h | (simp at h; done) | (simp at h; first | (exfalso; omega) | skip) | skip) | exact (by kernel_rfl : drawOk _ _ = true) | (change vcFun _ _ _ _ _; refine call_eq rfl (by repeat' (first | trivial | refine And.intro ?_ ?_ | (show 0 + _ ≤ List.length _; simp))) ALeL.refl (h1) rfl ?_) | fail)
  all_goals first
    | (exfalso; omega)
    | (change retOk _ _ _ _; refine ret_pure rfl (by repeat' (first | exact True.intro | refine And.intro ?_ ?_)) ?_
       exact ⟨ALe.tup ⟨ALe.agg le_zeroM, ALe.refl, trivial⟩⟩)
end Go.Proofs.YtpnghlibmpainaaGreat.Cw

/-
  Contracts: the model of examinations, by the reference.
-/
namespace Go.Proofs.YtpnghlibmpainaaGreat.Cw
open Go Go.Cw Go.Proofs
set_option linter.unusedVariables false
set_option maxRecDepth 100000
set_option maxHeartbeats 20000000

/-- What a class's seats add to the loads of a sitting and a room, as_ far as_ they are looked at. -/
def partL (A : List Seat) (s r i : Nat) (w : Int) (k : Nat) : List Load := match A.findIdx? (seatIs s r) with
  | some j => if j < k then [⟨(i : Int), (j : Int), w⟩] else []
  | none => []
end Go.Proofs.YtpnghlibmpainaaGreat.Cw

/-
  Contracts: a model equals itself.
-/
namespace Go.Proofs.YtpnghlibmpainaaGreat.Cw
open Go.Cw Go.Proofs
set_option linter.unusedVariables false
set_option maxRecDepth 100000
set_option maxHeartbeats 8000000

structure SameOk (M : Model) : Prop where
  cls : M.classes.length ≤ 100000
  opt : ∀ l ∈ M.classes, l.length ≤ 100000
  chg : ∀ l ∈ M.classes, ∀ o ∈ l, o.charges.length ≤ 100000
  prs : M.pairs.length ≤ 100000
  tab : ∀ p ∈ M.pairs, p.table.length ≤ 100000
  cnt : M.counts.length ≤ 100000
  lds : ∀ c ∈ M.counts, c.loads.length ≤ 100000
end Go.Proofs.YtpnghlibmpainaaGreat.Cw

/-
  Odd times, odd rooms, odd examinations.
-/
namespace Go.Proofs.YtpnghlibmpainaaGreat.Cw
open Go.Cw Go.Proofs
set_option linter.unusedVariables false
set_option maxRecDepth 100000
set_option maxHeartbeats 1600000

def intRows : List (List PV) → Bool
  | [] => true
  | [.val (.int .i64 _)] :: l => intRows l
  | _ => false
end Go.Proofs.YtpnghlibmpainaaGreat.Cw

/-
  Made examinations.
-/
namespace Go.Proofs.YtpnghlibmpainaaGreat.Cw
open Go.Cw Go.Proofs
set_option linter.unusedVariables false
set_option maxRecDepth 100000
set_option maxHeartbeats 1600000

def z0 : AV := vint .i64 0
def rm0 (r : List PV) : Prop := ∃ c b s, r = [es c, es b, ei s, .val (.slice none 0 0), .val (.slice none 0 0)]
def zeroX : Option AObj := some ⟨33, 8, false, .box [nilA, nilA, nilA, z0, z0, z0, z0, z0]⟩

def roomR (r : List PV) : Prop := ∃ x : Room, PLeL r x.row
def sitR (r : List PV) : Prop := ∃ x : Sitting, r = x.row
end Go.Proofs.YtpnghlibmpainaaGreat.Cw
