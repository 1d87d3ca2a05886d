/-
  Part 7 of the proof (S10, S11, RM2, RM3): what later parts use. No conditions.
-/
import Derived.Test.YtmaambipopgdkaaGreatMY6

/-
  The reference's pairs; what two classes, and one, violate.
-/
namespace Go.Proofs.YtmaambipopgdkaaGreat.Cw
open Go.Cw Go.Proofs
set_option linter.unusedVariables false
set_option maxRecDepth 100000
set_option maxHeartbeats 8000000

theorem pair_none {r : Reg} {u : Rule} {W : Travel} {a b : Placed} (h : ¬ u.kind = 1 ∧ ¬ u.kind = 2 ∧ ¬ u.kind = 3 ∧ ¬ u.kind = 4 ∧ ¬ u.kind = 5 ∧ ¬ u.kind = 8 ∧ ¬ u.kind = 9 ∧ ¬ u.kind = 12) : (0 : Int) = if pB (pairP2 r u W a b) then 1 else 0 := by
  rw [pB_f fun hq => ?_]
  · rfl
  rcases hq with ⟨e, hq⟩ | ⟨e, hq⟩ | ⟨e, hq⟩ | ⟨e, hq⟩ | ⟨e, hq⟩ | ⟨e, hq⟩ | ⟨e, hq⟩ | ⟨e, hq⟩ <;> omega
theorem c_rpairJ (r : Reg) (u : Rule) (W : Travel) (a b : Placed) (hW : WayL W) :
    PCall Tryz.prog 153 [ag r.cells, ag W.row, ag u.row, ag a.row, ag b.row] (fun v => v = vint .i64 (if pB (pairP2 r u W a b) then 1 else 0)) := by
  have h1 := c_rbetween a.time b.time
  have h2 := c_rsound a.time
  have h3 := c_rsound b.time
  have h4 := c_rroomed r a
  have h5 := c_rroomed r b
  by_cases hab : roomIn r a ∧ roomIn r b
  · obtain ⟨ha, hb⟩ := hab
    rw [pB_t ha] at h4
    rw [pB_t hb] at h5
    obtain ⟨i, x, e1, hx, e2, -⟩ := room_at ha
    obtain ⟨k, y, e3, hy, e4, -⟩ := room_at hb
    have hbt := c_rtbet W x.bld y.bld hW.blds hW.slots hW.rows
    have hfar : farP r W a b (btw a.time b.time) ↔ btw a.time b.time < betV W x.bld y.bld := by
      unfold farP; rw [e2, e4]; simp [ha, hb]
    generalize betV W x.bld y.bld = BV at *
    have ea : a.row = [ei a.time.weeks, ei a.time.day, ei a.time.start, ei a.time.len, ei i] := by rw [← e1]; rfl
    have eb2 : b.row = [ei b.time.weeks, ei b.time.day, ei b.time.start, ei b.time.len, ei k] := by rw [← e3]; rfl
    rw [ea] at h4 ⊢
    rw [eb2] at h5 ⊢
    refine acall_of tok mixed 170 rfl (fn := Tryz.f153) (c := Tryz.f153.body.getD .skip) (by kernel_rfl) (by kernel_rfl) (by kernel_rfl) rfl 0 rfl ?_
    repeat' (first | (refine join_in (a := .region 3 _ _) (fun b : Bool => [(15, vbool b)]) (fun _ => [some ⟨37, 14, false, .box (pvs r.cells)⟩, some ⟨31, 2, false, .box (pvs W.row)⟩, some ⟨58, 13, false, .box (pvs u.row)⟩, some ⟨72, 5, false, .box (pvs [ei a.time.weeks, ei a.time.day, ei a.time.start, ei a.time.len, ei i])⟩, some ⟨72, 5, false, .box (pvs [ei b.time.weeks, ei b.time.day, ei b.time.start, ei b.time.len, ei k])⟩, some ⟨69, 4, false, .box (pvs a.time.row)⟩, some ⟨69, 4, false, .box (pvs b.time.row)⟩]) (fun v => v = pB (soundP a.time ∧ soundP b.time)) ⟨?_, ?_⟩) | refine o1 ?_ | refine o2 ?_ | refine k1 ?_ | refine k2 ?_ | refine And.intro ?_ ?_ | refine o3 ?_ | refine o4 ?_ | (intro h; first | exact Bool.noConfusion h | exact nz _ h | exact nl h | (simp at h; done) | (simp at h; first | (exfalso; omega) | skip) | skip) | exact (by kernel_rfl : drawOk _ _ = true) | (change vcFun _ _ _ _ _; refine call_eq rfl (by repeat' (first | trivial | refine And.intro ?_ ?_ | (show 0 + _ ≤ List.length _; simp))) ALeL.refl (h1) rfl ?_) | (change vcFun _ _ _ _ _; refine call_eq rfl (by repeat' (first | trivial | refine And.intro ?_ ?_ | (show 0 + _ ≤ List.length _; simp))) ALeL.refl (h2) rfl ?_) | (change vcFun _ _ _ _ _; refine call_eq rfl (by repeat' (first | trivial | refine And.intro ?_ ?_ | (show 0 + _ ≤ List.length _; simp))) ALeL.refl (h3) rfl ?_) | fail)
    rotate_right
    · refine ⟨fun v hv => ?_⟩
      subst hv
      repeat' (first | (refine (eqv_rfl ?_ : eqv (bits _ _ _ _) _)) | refine o1 ?_ | refine o2 ?_ | refine k1 ?_ | refine k2 ?_ | refine k3 ?_ | refine k4 ?_ | refine k6 ?_ | refine k7 ?_ | refine And.intro ?_ ?_ | refine o3 ?_ | refine o4 ?_ | (intro h; first | exact Bool.noConfusion h | exact nz _ h | exact nl h | (simp at h; done) | (simp at h; first | (exfalso; omega) | skip) | skip) | (change retOk _ _ _ _; refine ret_pure rfl trivial ?_) | exact (by kernel_rfl : drawOk _ _ = true) | refine ⟨_, _, (by first | rfl | assumption), at_map (by assumption), ?_⟩ | (change vcFun _ _ _ _ _; refine call_eq rfl (by repeat' (first | trivial | refine And.intro ?_ ?_ | (show 0 + _ ≤ List.length _; simp))) ALeL.refl (h4) rfl ?_) | (change vcFun _ _ _ _ _; refine call_eq rfl (by repeat' (first | trivial | refine And.intro ?_ ?_ | (show 0 + _ ≤ List.length _; simp))) ALeL.refl (h5) rfl ?_) | (change vcFunD _ _ _ _ _; refine callD_eq rfl (by repeat' (first | trivial | refine And.intro ?_ ?_ | (show 0 + _ ≤ List.length _; simp))) ALeL.refl (hbt) rfl ?_) | (change vcFun _ _ _ _ _; refine call_eq rfl (by repeat' (first | trivial | refine And.intro ?_ ?_ | (show 0 + _ ≤ List.length _; simp))) ALeL.refl (c_roneB _) rfl ?_) | (change vcFunD _ _ _ _ _; refine callD_eq rfl (by repeat' (first | trivial | refine And.intro ?_ ?_ | (show 0 + _ ≤ List.length _; simp))) ALeL.refl (c_roneB _) rfl ?_) | (refine eqv_rfl ?_) | fail)
      all_goals clear h1 h2 h3 h4 h5 hbt
      all_goals first
        | exact congrArg (vint .i64) (pair_none ⟨by assumption, by assumption, by assumption, by assumption, by assumption, by assumption, by assumption, by assumption⟩)
        | skip
      all_goals
        refine congrArg (vint .i64) (congrArg (fun b : Bool => if b = true then (1 : Int) else 0) ?_)
        first
          | (refine pB_eq ?_; unfold pairP2; simp [*]; done)
          | (refine (pB_f fun hq => ?_).symm
             rcases hq with ⟨e, hq⟩ | ⟨e, hq⟩ | ⟨e, hq⟩ | ⟨e, hq⟩ | ⟨e, hq⟩ | ⟨e, hq⟩ | ⟨e, hq⟩ | ⟨e, hq⟩
             all_goals first
               | (exfalso; omega)
               | exact absurd hq.1.2 ((by assumption : soundP a.time → ¬ soundP b.time) hq.1.1)
               | skip)
          | (have hm : meetP a.time b.time := by assumption
             have hk : u.kind = 9 := by assumption
             have g1 := sound_b hm.1
             have g2 := sound_b hm.2.1
             have w1 : IntKind.i64.wrap (b.time.start + b.time.len) = b.time.start + b.time.len := wrap64 (by omega) (by omega)
             have w2 : IntKind.i64.wrap (a.time.start + a.time.len) = a.time.start + a.time.len := wrap64 (by omega) (by omega)
             refine pB_eq ?_
             simp only [cond_true, cond_false, w1, w2]
             rw [wrap64 (by (repeat' split) <;> omega) (by (repeat' split) <;> omega)]
             simp only [decide_eq_true_eq]
             constructor
             · intro h
               exact .inr (.inr (.inr (.inr (.inr (.inr (.inl ⟨hk, hm, by (repeat' split at h) <;> omega⟩))))))
             · intro hq
               rcases hq with ⟨e, hq⟩ | ⟨e, hq⟩ | ⟨e, hq⟩ | ⟨e, hq⟩ | ⟨e, hq⟩ | ⟨e, hq⟩ | ⟨e, hq⟩ | ⟨e, hq⟩
               all_goals first
                 | (exfalso; omega)
                 | (have hq := hq.2; (repeat' split) <;> omega))
    all_goals
      refine ⟨_, ?_, back [0, 1, 2, 3, 4, 5, 6] rfl rfl (by repeat' (first | exact trivial | exact rfl | refine And.intro ?_ ?_)) (by repeat' (first | exact trivial | exact rfl | refine And.intro ?_ ?_))⟩
      refine pB_eq ?_
      simp [*]
  · refine acall_of tok mixed 170 rfl (fn := Tryz.f153) (c := Tryz.f153.body.getD .skip) (by kernel_rfl) (by kernel_rfl) (by kernel_rfl) rfl 0 rfl ?_
    repeat' (first | (refine join_in (a := .region 3 _ _) (fun b : Bool => [(15, vbool b)]) (fun _ => [some ⟨37, 14, false, .box (pvs r.cells)⟩, some ⟨31, 2, false, .box (pvs W.row)⟩, some ⟨58, 13, false, .box (pvs u.row)⟩, some ⟨72, 5, false, .box (pvs a.row)⟩, some ⟨72, 5, false, .box (pvs b.row)⟩, some ⟨69, 4, false, .box (pvs a.time.row)⟩, some ⟨69, 4, false, .box (pvs b.time.row)⟩]) (fun v => v = pB (soundP a.time ∧ soundP b.time)) ⟨?_, ?_⟩) | refine o1 ?_ | refine o2 ?_ | refine k1 ?_ | refine k2 ?_ | refine And.intro ?_ ?_ | refine o3 ?_ | refine o4 ?_ | (intro h; first | exact Bool.noConfusion h | exact nz _ h | exact nl h | (simp at h; done) | (simp at h; first | (exfalso; omega) | skip) | skip) | exact (by kernel_rfl : drawOk _ _ = true) | (change vcFun _ _ _ _ _; refine call_eq rfl (by repeat' (first | trivial | refine And.intro ?_ ?_ | (show 0 + _ ≤ List.length _; simp))) ALeL.refl (h1) rfl ?_) | (change vcFun _ _ _ _ _; refine call_eq rfl (by repeat' (first | trivial | refine And.intro ?_ ?_ | (show 0 + _ ≤ List.length _; simp))) ALeL.refl (h2) rfl ?_) | (change vcFun _ _ _ _ _; refine call_eq rfl (by repeat' (first | trivial | refine And.intro ?_ ?_ | (show 0 + _ ≤ List.length _; simp))) ALeL.refl (h3) rfl ?_) | fail)
    rotate_right
    · refine ⟨fun v hv => ?_⟩
      subst hv
      repeat' (first | (refine join_in (a := .region 4 _ _) (fun b : Bool => [(16, vbool b)]) (fun _ => [some ⟨37, 14, false, .box (pvs r.cells)⟩, some ⟨31, 2, false, .box (pvs W.row)⟩, some ⟨58, 13, false, .box (pvs u.row)⟩, some ⟨72, 5, false, .box (pvs a.row)⟩, some ⟨72, 5, false, .box (pvs b.row)⟩, some ⟨69, 4, false, .box (pvs a.time.row)⟩, some ⟨69, 4, false, .box (pvs b.time.row)⟩]) (fun v => v = false) ⟨?_, ?_⟩) | refine o1 ?_ | refine o2 ?_ | refine k2 ?_ | refine And.intro ?_ ?_ | (intro h; first | exact Bool.noConfusion h | exact nz _ h | exact nl h | (simp at h; done) | (simp at h; first | (exfalso; omega) | skip) | skip) | (change vcFun _ _ _ _ _; refine call_eq rfl (by repeat' (first | trivial | refine And.intro ?_ ?_ | (show 0 + _ ≤ List.length _; simp))) ALeL.refl (h4) rfl ?_) | (change vcFun _ _ _ _ _; refine call_eq rfl (by repeat' (first | trivial | refine And.intro ?_ ?_ | (show 0 + _ ≤ List.length _; simp))) ALeL.refl (h5) rfl ?_) | fail)
      rotate_right
      · refine ⟨fun v hv => ?_⟩
        subst hv
        repeat' (first | (refine (eqv_rfl ?_ : eqv (bits _ _ _ _) _)) | refine o1 ?_ | refine o2 ?_ | refine k1 ?_ | refine k2 ?_ | refine k3 ?_ | refine k4 ?_ | refine k6 ?_ | refine k7 ?_ | refine And.intro ?_ ?_ | refine o3 ?_ | refine o4 ?_ | (intro h; first | exact Bool.noConfusion h | exact nz _ h | exact nl h | (simp at h; done) | (simp at h; first | (exfalso; omega) | skip) | skip) | (change retOk _ _ _ _; refine ret_pure rfl trivial ?_) | exact (by kernel_rfl : drawOk _ _ = true) | (change vcFun _ _ _ _ _; refine call_eq rfl (by repeat' (first | trivial | refine And.intro ?_ ?_ | (show 0 + _ ≤ List.length _; simp))) ALeL.refl (c_roneB _) rfl ?_) | (change vcFunD _ _ _ _ _; refine callD_eq rfl (by repeat' (first | trivial | refine And.intro ?_ ?_ | (show 0 + _ ≤ List.length _; simp))) ALeL.refl (c_roneB _) rfl ?_) | (refine eqv_rfl ?_) | fail)
        all_goals clear h1 h2 h3 h4 h5
        all_goals first
          | exact congrArg (vint .i64) (pair_none ⟨by assumption, by assumption, by assumption, by assumption, by assumption, by assumption, by assumption, by assumption⟩)
          | skip
        all_goals
          refine congrArg (vint .i64) (congrArg (fun b : Bool => if b = true then (1 : Int) else 0) ?_)
          first
            | (refine pB_eq ?_; unfold pairP2; simp [*]; done)
            | (refine (pB_f fun hq => ?_).symm
               rcases hq with ⟨e, hq⟩ | ⟨e, hq⟩ | ⟨e, hq⟩ | ⟨e, hq⟩ | ⟨e, hq⟩ | ⟨e, hq⟩ | ⟨e, hq⟩ | ⟨e, hq⟩
               all_goals first
                 | (exfalso; omega)
                 | exact absurd hq.1.2 ((by assumption : soundP a.time → ¬ soundP b.time) hq.1.1)
                 | exact hab ⟨hq.1, hq.2.1⟩
                 | exact hab ⟨hq.2.2.1, hq.2.2.2.1⟩)
            | (have hm : meetP a.time b.time := by assumption
               have hk : u.kind = 9 := by assumption
               have g1 := sound_b hm.1
               have g2 := sound_b hm.2.1
               have w1 : IntKind.i64.wrap (b.time.start + b.time.len) = b.time.start + b.time.len := wrap64 (by omega) (by omega)
               have w2 : IntKind.i64.wrap (a.time.start + a.time.len) = a.time.start + a.time.len := wrap64 (by omega) (by omega)
               refine pB_eq ?_
               simp only [cond_true, cond_false, w1, w2]
               rw [wrap64 (by (repeat' split) <;> omega) (by (repeat' split) <;> omega)]
               simp only [decide_eq_true_eq]
               constructor
               · intro h
                 exact .inr (.inr (.inr (.inr (.inr (.inr (.inl ⟨hk, hm, by (repeat' split at h) <;> omega⟩))))))
               · intro hq
                 rcases hq with ⟨e, hq⟩ | ⟨e, hq⟩ | ⟨e, hq⟩ | ⟨e, hq⟩ | ⟨e, hq⟩ | ⟨e, hq⟩ | ⟨e, hq⟩ | ⟨e, hq⟩
                 all_goals first
                   | (exfalso; omega)
                   | (have hq := hq.2; (repeat' split) <;> omega))
      all_goals
        refine ⟨_, ?_, back [0, 1, 2, 3, 4, 5, 6] rfl rfl (by repeat' (first | exact trivial | exact rfl | refine And.intro ?_ ?_)) (by repeat' (first | exact trivial | exact rfl | refine And.intro ?_ ?_))⟩
        first
          | rfl
          | exact pB_f fun h => hab ⟨by assumption, h⟩
          | (refine pB_eq ?_; simp [*]; done)
    all_goals
      refine ⟨_, ?_, back [0, 1, 2, 3, 4, 5, 6] rfl rfl (by repeat' (first | exact trivial | exact rfl | refine And.intro ?_ ?_)) (by repeat' (first | exact trivial | exact rfl | refine And.intro ?_ ?_))⟩
      first
        | rfl
        | exact pB_f fun h => hab ⟨by assumption, h⟩
        | (refine pB_eq ?_; simp [*]; done)
end Go.Proofs.YtmaambipopgdkaaGreat.Cw

/-
  What two classes, and one, violate: judges and the reference.
-/
namespace Go.Proofs.YtmaambipopgdkaaGreat.Cw
open Go.Cw Go.Proofs
set_option linter.unusedVariables false
set_option maxRecDepth 100000
set_option maxHeartbeats 8000000

noncomputable def togB (r : Reg) (u : Rule) (W : Travel) (fi fk si sk : Bool) (a b : Placed) : Int :=
  if u.kind = 6 then (if fi && sk && pB (lateP a b) then 1 else 0) + (if fk && si && pB (lateP b a) then 1 else 0) else (if fi && fk && pB (pairP2 r u W a b) then 1 else 0)
theorem togB_six {r : Reg} {u : Rule} {W : Travel} {fi fk si sk : Bool} {a b : Placed} (h : u.kind = 6) : togB r u W fi fk si sk a b = (if fi && sk && pB (lateP a b) then 1 else 0) + (if fk && si && pB (lateP b a) then 1 else 0) := if_pos h
theorem togB_pair {r : Reg} {u : Rule} {W : Travel} {fi fk si sk : Bool} {a b : Placed} (h : ¬ u.kind = 6) : togB r u W fi fk si sk a b = (if fi && fk && pB (pairP2 r u W a b) then 1 else 0) := if_neg h
noncomputable def alnB (r : Reg) (u : Rule) (fi : Bool) (a : Placed) : Int :=
  if fi then (if u.kind = 10 then (if pB (∃ t ∈ u.times, ovP t a.time) then 1 else 0) else if u.kind = 11 then (if pB (roomIn r a ∧ ¬ codeOf r a ∈ u.rooms) then 1 else 0) else 0) else 0
theorem c_rhasN (l : List Int) (n : Int) (hl : l.length ≤ 100000) : PCall Tryz.prog 150 [.pv (encInts l), vint .i64 n] (fun r => r = vbool (pB (n ∈ l))) := by
  refine acall_of tok mixed 18 rfl (fn := Tryz.f150) (c := Tryz.f150.body.getD .skip) (by kernel_rfl) (by kernel_rfl) (by kernel_rfl) rfl 0 rfl ?_
  repeat' (first | refine o1 ?_ | refine o2 ?_ | refine k1 ?_ | refine k2 ?_ | refine k4 ?_ | fail)
  refine loop_at (fun i : Nat => [(5, vint .i64 i)]) (fun _ => []) (fun i => i ≤ l.length ∧ ∀ j, j < i → ∀ y, l[j]? = some y → ¬ y = n) (fun i => l.length - i) 0 ⟨Nat.zero_le _, fun j hj => by omega⟩ (by repeat' (first | exact trivial | exact ⟨_, rfl, ALe.refl⟩ | refine And.intro ?_ ?_)) (by repeat' (first | exact trivial)) ?_
  intro i ⟨hi, hall⟩
  rcases Nat.lt_or_ge i l.length with hlt | hge
  · obtain ⟨x, hx⟩ := getE hlt
    repeat' (first | refine o1 ?_ | refine o2 ?_ | refine k1 ?_ | refine k2 ?_ | refine k3 ?_ | refine k4 ?_ | refine k6 ?_ | refine k7 ?_ | refine And.intro ?_ ?_ | (intro h; first | exact Bool.noConfusion h | exact nz _ h | exact nl h | (simp at h; done) | (simp at h; first | (exfalso; omega) | skip) | skip) | (change retOk _ _ _ _; refine ret_pure rfl trivial ?_) | refine eqv_len_map ?_ | refine eqv_wrap (by omega) (by omega) ?_ | refine ⟨_, _, (by first | rfl | assumption), at_map (by assumption), ?_⟩ | fail)
    all_goals first
      | exact congrArg vbool (pB_t (show n ∈ l from (by assumption : x = n) ▸ List.mem_of_getElem? hx)).symm
      | exact ⟨i + 1, ⟨by omega, all_lt_succ hall fun y hy => by rw [hx] at hy; cases hy; assumption⟩, by omega, back [] rfl rfl trivial (by repeat' (first | exact trivial | exact rfl | refine And.intro ?_ ?_))⟩
  · repeat' (first | refine o1 ?_ | refine o2 ?_ | refine k1 ?_ | refine k2 ?_ | refine k3 ?_ | refine k7 ?_ | refine k8 ?_ | refine And.intro ?_ ?_ | (intro h; first | exact Bool.noConfusion h | exact nz _ h | exact nl h | (simp at h; done) | (simp at h; first | (exfalso; omega) | skip) | skip) | (change retOk _ _ _ _; refine ret_pure rfl trivial ?_) | refine eqv_len_map ?_ | fail)
    exact congrArg vbool (pB_f fun hm => by
      obtain ⟨j, hj⟩ := List.getElem?_of_mem hm
      exact hall j (by have := (List.getElem?_eq_some_iff.1 hj).1; omega) n hj rfl).symm
theorem c_rboth (r : Reg) (u : Rule) (W : Travel) (F1 S1 : List Int) (i k : Int) (a b : Placed) (hW : WayL W) (hF : F1.length ≤ 100000) (hS : S1.length ≤ 100000) :
    PCall Tryz.prog 58 [ag r.cells, ag u.row, .pv (encInts F1), .pv (encInts S1), ag W.row, vint .i64 i, vint .i64 k, ag a.row, ag b.row] (fun v => v = vint .i64 (togB r u W (pB (i ∈ F1)) (pB (k ∈ F1)) (pB (i ∈ S1)) (pB (k ∈ S1)) a b)) := by
  have h1 := c_rhasN F1 i hF
  have h2 := c_rhasN F1 k hF
  have h3 := c_rhasN S1 i hS
  have h4 := c_rhasN S1 k hS
  have h5 := c_rlate a b
  have h6 := c_rlate b a
  have h7 := c_rpairJ r u W a b hW
  generalize pB (i ∈ F1) = fi at *
  generalize pB (k ∈ F1) = fk at *
  generalize pB (i ∈ S1) = si at *
  generalize pB (k ∈ S1) = sk at *
  by_cases h : u.kind = 6
  · rw [togB_six h]
    generalize pB (lateP a b) = l1 at *
    generalize pB (lateP b a) = l2 at *
    have b1 : (if l1 = true then (1 : Int) else 0) = 0 ∨ (if l1 = true then (1 : Int) else 0) = 1 := by cases l1 <;> simp
    have b2 : (if l2 = true then (1 : Int) else 0) = 0 ∨ (if l2 = true then (1 : Int) else 0) = 1 := by cases l2 <;> simp
    generalize hx1 : (if l1 = true then (1 : Int) else 0) = x1 at *
    generalize hx2 : (if l2 = true then (1 : Int) else 0) = x2 at *
    refine acall_of tok mixed 66 rfl (fn := Tryz.f58) (c := Tryz.f58.body.getD .skip) (by kernel_rfl) (by kernel_rfl) (by kernel_rfl) rfl 0 rfl ?_
    repeat' (first | refine o1 ?_ | refine o2 ?_ | refine k1 ?_ | refine k2 ?_ | refine k3 ?_ | refine k6 ?_ | refine k7 ?_ | refine And.intro ?_ ?_ | (intro h; first | exact Bool.noConfusion h | exact nz _ h | exact nl h | (simp at h; done) | (simp at h; first | (exfalso; omega) | skip) | skip) | (change retOk _ _ _ _; refine ret_pure rfl trivial ?_) | refine eqv_wrap (by omega) (by omega) ?_ | (change vcFun _ _ _ _ _; refine call_eq rfl (by repeat' (first | trivial | refine And.intro ?_ ?_ | (show 0 + _ ≤ List.length _; simp))) ALeL.refl (h1) rfl ?_) | (change vcFun _ _ _ _ _; refine call_eq rfl (by repeat' (first | trivial | refine And.intro ?_ ?_ | (show 0 + _ ≤ List.length _; simp))) ALeL.refl (h2) rfl ?_) | (change vcFun _ _ _ _ _; refine call_eq rfl (by repeat' (first | trivial | refine And.intro ?_ ?_ | (show 0 + _ ≤ List.length _; simp))) ALeL.refl (h3) rfl ?_) | (change vcFun _ _ _ _ _; refine call_eq rfl (by repeat' (first | trivial | refine And.intro ?_ ?_ | (show 0 + _ ≤ List.length _; simp))) ALeL.refl (h4) rfl ?_) | (change vcFun _ _ _ _ _; refine call_eq rfl (by repeat' (first | trivial | refine And.intro ?_ ?_ | (show 0 + _ ≤ List.length _; simp))) ALeL.refl (h5) rfl ?_) | (change vcFun _ _ _ _ _; refine call_eq rfl (by repeat' (first | trivial | refine And.intro ?_ ?_ | (show 0 + _ ≤ List.length _; simp))) ALeL.refl (h6) rfl ?_) | fail)
    all_goals clear h1 h2 h3 h4 h5 h6
    all_goals
      refine congrArg (vint .i64) ?_
      simp [*]
  · rw [togB_pair h]
    generalize pB (pairP2 r u W a b) = l1 at *
    refine acall_of tok mixed 66 rfl (fn := Tryz.f58) (c := Tryz.f58.body.getD .skip) (by kernel_rfl) (by kernel_rfl) (by kernel_rfl) rfl 0 rfl ?_
    repeat' (first | refine o1 ?_ | refine o2 ?_ | refine k1 ?_ | refine k2 ?_ | refine k3 ?_ | refine k6 ?_ | refine k7 ?_ | refine And.intro ?_ ?_ | (intro h; first | exact Bool.noConfusion h | exact nz _ h | exact nl h | (simp at h; done) | (simp at h; first | (exfalso; omega) | skip) | skip) | (change retOk _ _ _ _; refine ret_pure rfl trivial ?_) | (change vcFun _ _ _ _ _; refine call_eq rfl (by repeat' (first | trivial | refine And.intro ?_ ?_ | (show 0 + _ ≤ List.length _; simp))) ALeL.refl (h1) rfl ?_) | (change vcFun _ _ _ _ _; refine call_eq rfl (by repeat' (first | trivial | refine And.intro ?_ ?_ | (show 0 + _ ≤ List.length _; simp))) ALeL.refl (h2) rfl ?_) | (change vcFun _ _ _ _ _; refine call_eq rfl (by repeat' (first | trivial | refine And.intro ?_ ?_ | (show 0 + _ ≤ List.length _; simp))) ALeL.refl (h7) rfl ?_) | fail)
    all_goals clear h1 h2 h3 h4 h5 h6 h7
    all_goals
      refine congrArg (vint .i64) ?_
      simp [*]
theorem c_together (r : Reg) (u : Rule) (F S : List Bool) (W : Travel) (i k : Nat) (fi fk si sk : Bool) (a b : Placed) (hW : WayL W) (hfi : F[i]? = some fi) (hfk : F[k]? = some fk) (hsi : u.kind = 6 → S[i]? = some si) (hsk : u.kind = 6 → S[k]? = some sk) :
    PCall Tryz.prog 55 [.pv (.ia (judgeC r u F S W)), vint .i64 i, vint .i64 k, ag a.row, ag b.row] (fun v => v = vint .i64 (togB r u W fi fk si sk a b)) := by
  have h5 := c_late a b
  have h6 := c_late b a
  have h7 := c_pairJ r u F S W a b hW
  by_cases h : u.kind = 6
  · have hsi := hsi h
    have hsk := hsk h
    rw [togB_six h]
    generalize pB (lateP a b) = l1 at *
    generalize pB (lateP b a) = l2 at *
    refine acall_of tok mixed 85 rfl (fn := Tryz.f55) (c := Tryz.f55.body.getD .skip) (by kernel_rfl) (by kernel_rfl) (by kernel_rfl) rfl 0 rfl ?_
    repeat' (first | (refine idx_sl (k := i) (at_map hfi) rfl ?_) | (refine idx_sl (k := k) (at_map hfk) rfl ?_) | (refine idx_sl (k := i) (at_map hsi) rfl ?_) | (refine idx_sl (k := k) (at_map hsk) rfl ?_) | refine o1 ?_ | refine o2 ?_ | refine k1 ?_ | refine k2 ?_ | refine k3 ?_ | refine k7 ?_ | refine And.intro ?_ ?_ | refine o3 ?_ | refine o4 ?_ | (intro h; first | exact Bool.noConfusion h | exact nz _ h | exact nl h | (simp at h; done) | (simp at h; first | (exfalso; omega) | skip) | skip) | (change retOk _ _ _ _; refine ret_pure rfl trivial ?_) | exact (by kernel_rfl : drawOk _ _ = true) | refine eqv_wrap (by omega) (by omega) ?_ | (change vcFunD _ _ _ _ _; refine callD_eq rfl (by repeat' (first | trivial | refine And.intro ?_ ?_ | (show 0 + _ ≤ List.length _; simp))) ALeL.refl (h5) rfl ?_) | (change vcFunD _ _ _ _ _; refine callD_eq rfl (by repeat' (first | trivial | refine And.intro ?_ ?_ | (show 0 + _ ≤ List.length _; simp))) ALeL.refl (h6) rfl ?_) | (change vcFunD _ _ _ _ _; refine callD_eq rfl (by repeat' (first | trivial | refine And.intro ?_ ?_ | (show 0 + _ ≤ List.length _; simp))) ALeL.refl (c_oneB _) rfl ?_) | fail)
    all_goals clear h5 h6 h7
    all_goals
      refine congrArg (vint .i64) ?_
      simp [*]
  · rw [togB_pair h]
    generalize pB (pairP2 r u W a b) = l1 at *
    refine acall_of tok mixed 85 rfl (fn := Tryz.f55) (c := Tryz.f55.body.getD .skip) (by kernel_rfl) (by kernel_rfl) (by kernel_rfl) rfl 0 rfl ?_
    repeat' (first | (refine idx_sl (k := i) (at_map hfi) rfl ?_) | (refine idx_sl (k := k) (at_map hfk) rfl ?_) | refine o1 ?_ | refine o2 ?_ | refine k1 ?_ | refine k2 ?_ | refine k3 ?_ | refine k6 ?_ | refine k7 ?_ | refine And.intro ?_ ?_ | (intro h; first | exact Bool.noConfusion h | exact nz _ h | exact nl h | (simp at h; done) | (simp at h; first | (exfalso; omega) | skip) | skip) | (change retOk _ _ _ _; refine ret_pure rfl trivial ?_) | (change vcFun _ _ _ _ _; refine call_eq rfl (by repeat' (first | trivial | refine And.intro ?_ ?_ | (show 0 + _ ≤ List.length _; simp))) ALeL.refl (h7) rfl ?_) | (change vcFun _ _ _ _ _; refine call_eq rfl (by repeat' (first | trivial | refine And.intro ?_ ?_ | (show 0 + _ ≤ List.length _; simp))) ALeL.refl (c_oneB _) rfl ?_) | fail)
    all_goals clear h5 h6 h7
    all_goals
      refine congrArg (vint .i64) ?_
      simp [*]
theorem c_alone1 (a : Placed) (t : Time) : PCall Tryz.prog 145 [ag t.row, .pv (.ia a.row)] (fun v => v = vbool (pB (ovP t a.time))) := by
  refine acall_of tok mixed 8 rfl (fn := Tryz.f145) (c := Tryz.f145.body.getD .skip) (by kernel_rfl) (by kernel_rfl) (by kernel_rfl) rfl 0 rfl ?_
  repeat' (first | refine o1 ?_ | refine o2 ?_ | refine k1 ?_ | refine k2 ?_ | refine k7 ?_ | (change retOk _ _ _ _; refine ret_pure rfl trivial ?_) | (change vcFun _ _ _ _ _; refine call_eq rfl (by repeat' (first | trivial | refine And.intro ?_ ?_ | (show 0 + _ ≤ List.length _; simp))) ALeL.refl (c_overlap t a.time) rfl ?_) | fail)
  rfl
theorem any_ov {l : List Time} {t : Time} : (l.any fun x => pB (ovP x t)) = pB (∃ x ∈ l, ovP x t) := pB_eq (by
  rw [List.any_eq_true]
  exact ⟨fun ⟨x, h1, h2⟩ => ⟨x, h1, by simpa using h2⟩, fun ⟨x, h1, h2⟩ => ⟨x, h1, pB_t h2⟩⟩)
theorem c_alone (r : Reg) (u : Rule) (F S : List Bool) (W : Travel) (i : Nat) (fi : Bool) (a : Placed) (hfi : F[i]? = some fi) (ht : u.times.length ≤ 100000) (hm : u.rooms.length ≤ 100000) :
    PCall Tryz.prog 54 [.pv (.ia (judgeC r u F S W)), vint .i64 i, ag a.row] (fun v => v = vint .i64 (alnB r u fi a)) := by
  have h1 := c_any_time u.times 145 [.ia a.row] (fun x => pB (ovP x a.time)) ht fun x _ => c_alone1 a x
  rw [any_ov] at h1
  have h2 := c_roomed r u F S W a
  unfold alnB
  by_cases ha : roomIn r a
  · obtain ⟨j, x, e1, hx, -, e2⟩ := room_at ha
    have h3 := c_contains u.rooms x.code hm
    rw [pB_t ha] at h2
    have hP : pB (roomIn r a ∧ ¬ codeOf r a ∈ u.rooms) = !pB (x.code ∈ u.rooms) := by
      rw [e2]
      exact (pB_eq (by simp [ha])).symm
    rw [hP]
    generalize pB (x.code ∈ u.rooms) = CB at *
    generalize pB (∃ x ∈ u.times, ovP x a.time) = OB at *
    have ea : a.row = [ei a.time.weeks, ei a.time.day, ei a.time.start, ei a.time.len, ei j] := by rw [← e1]; rfl
    rw [ea] at h1 h2 ⊢
    refine acall_of tok mixed 55 rfl (fn := Tryz.f54) (c := Tryz.f54.body.getD .skip) (by kernel_rfl) (by kernel_rfl) (by kernel_rfl) rfl 0 rfl ?_
    repeat' (first | (refine idx_sl (k := i) (at_map hfi) rfl ?_) | refine o1 ?_ | refine o2 ?_ | refine k1 ?_ | refine k2 ?_ | refine k3 ?_ | refine k4 ?_ | refine k6 ?_ | refine k7 ?_ | refine And.intro ?_ ?_ | refine o3 ?_ | refine o4 ?_ | (intro h; first | exact Bool.noConfusion h | exact nz _ h | exact nl h | (simp at h; done) | (simp at h; first | (exfalso; omega) | skip) | skip) | (change retOk _ _ _ _; refine ret_pure rfl trivial ?_) | exact (by kernel_rfl : drawOk _ _ = true) | refine ⟨_, _, (by first | rfl | assumption), at_map (by assumption), ?_⟩ | (change vcFun _ _ _ _ _; refine call_eq rfl (by repeat' (first | trivial | refine And.intro ?_ ?_ | (show 0 + _ ≤ List.length _; simp))) ALeL.refl (h1) rfl ?_) | (change vcFunD _ _ _ _ _; refine callD_eq rfl (by repeat' (first | trivial | refine And.intro ?_ ?_ | (show 0 + _ ≤ List.length _; simp))) ALeL.refl (h2) rfl ?_) | (change vcFunD _ _ _ _ _; refine callD_eq rfl (by repeat' (first | trivial | refine And.intro ?_ ?_ | (show 0 + _ ≤ List.length _; simp))) ALeL.refl (h3) rfl ?_) | (change vcFun _ _ _ _ _; refine call_eq rfl (by repeat' (first | trivial | refine And.intro ?_ ?_ | (show 0 + _ ≤ List.length _; simp))) ALeL.refl (c_oneB _) rfl ?_) | (change vcFunD _ _ _ _ _; refine callD_eq rfl (by repeat' (first | trivial | refine And.intro ?_ ?_ | (show 0 + _ ≤ List.length _; simp))) ALeL.refl (c_oneB _) rfl ?_) | fail)
    all_goals clear h1 h2 h3
    all_goals first
      | (refine congrArg (vint .i64) ?_; simp [*]; done)
  · rw [pB_f ha] at h2
    rw [pB_f (show ¬ (roomIn r a ∧ ¬ codeOf r a ∈ u.rooms) from fun h => ha h.1)]
    generalize pB (∃ x ∈ u.times, ovP x a.time) = OB at *
    refine acall_of tok mixed 55 rfl (fn := Tryz.f54) (c := Tryz.f54.body.getD .skip) (by kernel_rfl) (by kernel_rfl) (by kernel_rfl) rfl 0 rfl ?_
    repeat' (first | (refine idx_sl (k := i) (at_map hfi) rfl ?_) | refine o1 ?_ | refine o2 ?_ | refine k1 ?_ | refine k2 ?_ | refine k3 ?_ | refine k4 ?_ | refine k6 ?_ | refine k7 ?_ | refine And.intro ?_ ?_ | refine o3 ?_ | refine o4 ?_ | (intro h; first | exact Bool.noConfusion h | exact nz _ h | exact nl h | (simp at h; done) | (simp at h; first | (exfalso; omega) | skip) | skip) | (change retOk _ _ _ _; refine ret_pure rfl trivial ?_) | exact (by kernel_rfl : drawOk _ _ = true) | (change vcFun _ _ _ _ _; refine call_eq rfl (by repeat' (first | trivial | refine And.intro ?_ ?_ | (show 0 + _ ≤ List.length _; simp))) ALeL.refl (h1) rfl ?_) | (change vcFunD _ _ _ _ _; refine callD_eq rfl (by repeat' (first | trivial | refine And.intro ?_ ?_ | (show 0 + _ ≤ List.length _; simp))) ALeL.refl (h2) rfl ?_) | (change vcFun _ _ _ _ _; refine call_eq rfl (by repeat' (first | trivial | refine And.intro ?_ ?_ | (show 0 + _ ≤ List.length _; simp))) ALeL.refl (c_oneB _) rfl ?_) | (change vcFunD _ _ _ _ _; refine callD_eq rfl (by repeat' (first | trivial | refine And.intro ?_ ?_ | (show 0 + _ ≤ List.length _; simp))) ALeL.refl (c_oneB _) rfl ?_) | fail)
    all_goals clear h1 h2
    all_goals first
      | (refine congrArg (vint .i64) ?_; simp [*]; done)
theorem c_ralone (r : Reg) (u : Rule) (F1 : List Int) (i : Int) (a : Placed) (hF : F1.length ≤ 100000) (ht : u.times.length ≤ 100000) (hm : u.rooms.length ≤ 100000) :
    PCall Tryz.prog 57 [ag r.cells, ag u.row, .pv (encInts F1), vint .i64 i, ag a.row] (fun v => v = vint .i64 (alnB r u (pB (i ∈ F1)) a)) := by
  have h1 := c_rhasN F1 i hF
  have h2 := c_rroomed r a
  unfold alnB
  generalize pB (i ∈ F1) = fi at *
  by_cases ha : roomIn r a
  · obtain ⟨j, x, e1, hx, -, e2⟩ := room_at ha
    rw [pB_t ha] at h2
    have hP : pB (roomIn r a ∧ ¬ codeOf r a ∈ u.rooms) = !pB (x.code ∈ u.rooms) := by
      rw [e2]
      exact (pB_eq (by simp [ha])).symm
    rw [hP]
    have ea : a.row = [ei a.time.weeks, ei a.time.day, ei a.time.start, ei a.time.len, ei j] := by rw [← e1]; rfl
    rw [ea] at h2 ⊢
    refine acall_of tok mixed 62 rfl (fn := Tryz.f57) (c := Tryz.f57.body.getD .skip) (by kernel_rfl) (by kernel_rfl) (by kernel_rfl) rfl 0 rfl ?_
    repeat' (first | refine o1 ?_ | refine o2 ?_ | refine k1 ?_ | refine k2 ?_ | refine k3 ?_ | refine k4 ?_ | refine k6 ?_ | refine k7 ?_ | refine And.intro ?_ ?_ | (intro h; first | exact Bool.noConfusion h | exact nz _ h | exact nl h | (simp at h; done) | (simp at h; first | (exfalso; omega) | skip) | skip) | (change retOk _ _ _ _; refine ret_pure rfl trivial ?_) | (change vcFun _ _ _ _ _; refine call_eq rfl (by repeat' (first | trivial | refine And.intro ?_ ?_ | (show 0 + _ ≤ List.length _; simp))) ALeL.refl (h1) rfl ?_) | (change vcFun _ _ _ _ _; refine call_eq rfl (by repeat' (first | trivial | refine And.intro ?_ ?_ | (show 0 + _ ≤ List.length _; simp))) ALeL.refl (h2) rfl ?_) | fail)
    all_goals clear h1 h2
    all_goals try (refine congrArg (vint .i64) ?_; simp [*]; done)
    · refine loop_in (fun i : Nat => [(11, vint .i64 i)]) (fun _ => [some ⟨37, 14, false, .box (pvs r.cells)⟩, some ⟨58, 13, false, .box (pvs u.row)⟩, some ⟨72, 5, false, .box (pvs [ei a.time.weeks, ei a.time.day, ei a.time.start, ei a.time.len, ei j])⟩]) (fun i => i ≤ u.times.length ∧ ∀ j, j < i → ∀ t, u.times[j]? = some t → ¬ ovP t a.time) (fun i => u.times.length - i) 0 ⟨Nat.zero_le _, fun j hj => by omega⟩ ⟨?_, ?_⟩
      · exact back [0, 1, 2] rfl rfl ⟨rfl, rfl, rfl, trivial⟩ (by repeat' (first | exact trivial | exact rfl | refine And.intro ?_ ?_))
      intro i ⟨hi, hall⟩
      rcases Nat.lt_or_ge i u.times.length with hlt | hge
      · obtain ⟨t, htt⟩ := getE hlt
        have hov := c_roverlap t a.time
        repeat' (first | refine o1 ?_ | refine o2 ?_ | refine k1 ?_ | refine k2 ?_ | refine k3 ?_ | refine k4 ?_ | refine k6 ?_ | refine k7 ?_ | refine And.intro ?_ ?_ | refine o3 ?_ | refine o4 ?_ | (intro h; first | exact Bool.noConfusion h | exact nz _ h | exact nl h | (simp at h; done) | (simp at h; first | (exfalso; omega) | skip) | skip) | (change retOk _ _ _ _; refine ret_pure rfl trivial ?_) | exact (by kernel_rfl : drawOk _ _ = true) | refine eqv_len_map ?_ | refine eqv_wrap (by omega) (by omega) ?_ | refine ⟨_, _, (by first | rfl | assumption), at_map (by assumption), ?_⟩ | (change vcFunD _ _ _ _ _; refine callD_eq rfl (by repeat' (first | trivial | refine And.intro ?_ ?_ | (show 0 + _ ≤ List.length _; simp))) ALeL.refl (hov) rfl ?_) | fail)
        all_goals first
          | (refine congrArg (vint .i64) ?_; rw [pB_t ⟨t, List.mem_of_getElem? htt, by assumption⟩]; simp [*]; done)
          | exact ⟨i + 1, ⟨by omega, all_lt_succ hall fun y hy => by rw [htt] at hy; cases hy; assumption⟩, by omega, back [0, 1, 2] rfl rfl ⟨rfl, rfl, rfl, trivial⟩ (by repeat' (first | exact trivial | exact rfl | refine And.intro ?_ ?_))⟩
      · have hno : ¬ ∃ t ∈ u.times, ovP t a.time := fun ⟨t, h1, h2⟩ => by
          obtain ⟨j, hj⟩ := List.getElem?_of_mem h1
          exact hall j (by have := (List.getElem?_eq_some_iff.1 hj).1; omega) t hj h2
        repeat' (first | refine o1 ?_ | refine o2 ?_ | refine k1 ?_ | refine k2 ?_ | refine k3 ?_ | refine k7 ?_ | refine k8 ?_ | refine And.intro ?_ ?_ | (intro h; first | exact Bool.noConfusion h | exact nz _ h | exact nl h | (simp at h; done) | (simp at h; first | (exfalso; omega) | skip) | skip) | (change retOk _ _ _ _; refine ret_pure rfl trivial ?_) | refine eqv_len_map ?_ | fail)
        refine congrArg (vint .i64) ?_
        rw [pB_f hno]
        simp [*]
    · refine loop_in (fun i : Nat => [(12, vint .i64 i)]) (fun _ => [some ⟨37, 14, false, .box (pvs r.cells)⟩, some ⟨58, 13, false, .box (pvs u.row)⟩, some ⟨72, 5, false, .box (pvs [ei a.time.weeks, ei a.time.day, ei a.time.start, ei a.time.len, ei j])⟩]) (fun i => i ≤ u.rooms.length ∧ ∀ j, j < i → ∀ c, u.rooms[j]? = some c → ¬ c = x.code) (fun i => u.rooms.length - i) 0 ⟨Nat.zero_le _, fun j hj => by omega⟩ ⟨?_, ?_⟩
      · exact back [0, 1, 2] rfl rfl ⟨rfl, rfl, rfl, trivial⟩ (by repeat' (first | exact trivial | exact rfl | refine And.intro ?_ ?_))
      intro i ⟨hi, hall⟩
      rcases Nat.lt_or_ge i u.rooms.length with hlt | hge
      · obtain ⟨c, hc⟩ := getE hlt
        repeat' (first | refine o1 ?_ | refine o2 ?_ | refine k1 ?_ | refine k2 ?_ | refine k3 ?_ | refine k4 ?_ | refine k6 ?_ | refine k7 ?_ | refine And.intro ?_ ?_ | refine o3 ?_ | refine o4 ?_ | (intro h; first | exact Bool.noConfusion h | exact nz _ h | exact nl h | (simp at h; done) | (simp at h; first | (exfalso; omega) | skip) | skip) | (change retOk _ _ _ _; refine ret_pure rfl trivial ?_) | exact (by kernel_rfl : drawOk _ _ = true) | refine eqv_len_map ?_ | refine eqv_wrap (by omega) (by omega) ?_ | refine ⟨_, _, (by first | rfl | assumption), at_map (by assumption), ?_⟩ | fail)
        all_goals first
          | (refine congrArg (vint .i64) ?_; rw [pB_t (show x.code ∈ u.rooms from (sEq_iff.1 (by assumption) : c = x.code) ▸ List.mem_of_getElem? hc)]; simp [*]; done)
          | exact ⟨i + 1, ⟨by omega, all_lt_succ hall fun y hy => by rw [hc] at hy; cases hy; exact sEq_f.1 (by assumption)⟩, by omega, back [0, 1, 2] rfl rfl ⟨rfl, rfl, rfl, trivial⟩ (by repeat' (first | exact trivial | exact rfl | refine And.intro ?_ ?_))⟩
      · have hno : ¬ x.code ∈ u.rooms := fun h1 => by
          obtain ⟨j, hj⟩ := List.getElem?_of_mem h1
          exact hall j (by have := (List.getElem?_eq_some_iff.1 hj).1; omega) _ hj rfl
        repeat' (first | refine o1 ?_ | refine o2 ?_ | refine k1 ?_ | refine k2 ?_ | refine k3 ?_ | refine k7 ?_ | refine k8 ?_ | refine And.intro ?_ ?_ | (intro h; first | exact Bool.noConfusion h | exact nz _ h | exact nl h | (simp at h; done) | (simp at h; first | (exfalso; omega) | skip) | skip) | (change retOk _ _ _ _; refine ret_pure rfl trivial ?_) | refine eqv_len_map ?_ | fail)
        refine congrArg (vint .i64) ?_
        rw [pB_f hno]
        simp [*]
  · rw [pB_f ha] at h2
    rw [pB_f (show ¬ (roomIn r a ∧ ¬ codeOf r a ∈ u.rooms) from fun h => ha h.1)]
    refine acall_of tok mixed 62 rfl (fn := Tryz.f57) (c := Tryz.f57.body.getD .skip) (by kernel_rfl) (by kernel_rfl) (by kernel_rfl) rfl 0 rfl ?_
    repeat' (first | refine o1 ?_ | refine o2 ?_ | refine k1 ?_ | refine k2 ?_ | refine k3 ?_ | refine k4 ?_ | refine k6 ?_ | refine k7 ?_ | refine And.intro ?_ ?_ | (intro h; first | exact Bool.noConfusion h | exact nz _ h | exact nl h | (simp at h; done) | (simp at h; first | (exfalso; omega) | skip) | skip) | (change retOk _ _ _ _; refine ret_pure rfl trivial ?_) | (change vcFun _ _ _ _ _; refine call_eq rfl (by repeat' (first | trivial | refine And.intro ?_ ?_ | (show 0 + _ ≤ List.length _; simp))) ALeL.refl (h1) rfl ?_) | (change vcFun _ _ _ _ _; refine call_eq rfl (by repeat' (first | trivial | refine And.intro ?_ ?_ | (show 0 + _ ≤ List.length _; simp))) ALeL.refl (h2) rfl ?_) | fail)
    all_goals clear h1 h2
    all_goals try (refine congrArg (vint .i64) ?_; simp [*]; done)
    · refine loop_in (fun i : Nat => [(11, vint .i64 i)]) (fun _ => [some ⟨37, 14, false, .box (pvs r.cells)⟩, some ⟨58, 13, false, .box (pvs u.row)⟩, some ⟨72, 5, false, .box (pvs a.row)⟩]) (fun i => i ≤ u.times.length ∧ ∀ j, j < i → ∀ t, u.times[j]? = some t → ¬ ovP t a.time) (fun i => u.times.length - i) 0 ⟨Nat.zero_le _, fun j hj => by omega⟩ ⟨?_, ?_⟩
      · exact back [0, 1, 2] rfl rfl ⟨rfl, rfl, rfl, trivial⟩ (by repeat' (first | exact trivial | exact rfl | refine And.intro ?_ ?_))
      intro i ⟨hi, hall⟩
      rcases Nat.lt_or_ge i u.times.length with hlt | hge
      · obtain ⟨t, htt⟩ := getE hlt
        have hov := c_roverlap t a.time
        repeat' (first | refine o1 ?_ | refine o2 ?_ | refine k1 ?_ | refine k2 ?_ | refine k3 ?_ | refine k4 ?_ | refine k6 ?_ | refine k7 ?_ | refine And.intro ?_ ?_ | refine o3 ?_ | refine o4 ?_ | (intro h; first | exact Bool.noConfusion h | exact nz _ h | exact nl h | (simp at h; done) | (simp at h; first | (exfalso; omega) | skip) | skip) | (change retOk _ _ _ _; refine ret_pure rfl trivial ?_) | exact (by kernel_rfl : drawOk _ _ = true) | refine eqv_len_map ?_ | refine eqv_wrap (by omega) (by omega) ?_ | refine ⟨_, _, (by first | rfl | assumption), at_map (by assumption), ?_⟩ | (change vcFunD _ _ _ _ _; refine callD_eq rfl (by repeat' (first | trivial | refine And.intro ?_ ?_ | (show 0 + _ ≤ List.length _; simp))) ALeL.refl (hov) rfl ?_) | fail)
        all_goals first
          | (refine congrArg (vint .i64) ?_; rw [pB_t ⟨t, List.mem_of_getElem? htt, by assumption⟩]; simp [*]; done)
          | exact ⟨i + 1, ⟨by omega, all_lt_succ hall fun y hy => by rw [htt] at hy; cases hy; assumption⟩, by omega, back [0, 1, 2] rfl rfl ⟨rfl, rfl, rfl, trivial⟩ (by repeat' (first | exact trivial | exact rfl | refine And.intro ?_ ?_))⟩
      · have hno : ¬ ∃ t ∈ u.times, ovP t a.time := fun ⟨t, h1, h2⟩ => by
          obtain ⟨j, hj⟩ := List.getElem?_of_mem h1
          exact hall j (by have := (List.getElem?_eq_some_iff.1 hj).1; omega) t hj h2
        repeat' (first | refine o1 ?_ | refine o2 ?_ | refine k1 ?_ | refine k2 ?_ | refine k3 ?_ | refine k7 ?_ | refine k8 ?_ | refine And.intro ?_ ?_ | (intro h; first | exact Bool.noConfusion h | exact nz _ h | exact nl h | (simp at h; done) | (simp at h; first | (exfalso; omega) | skip) | skip) | (change retOk _ _ _ _; refine ret_pure rfl trivial ?_) | refine eqv_len_map ?_ | fail)
        refine congrArg (vint .i64) ?_
        rw [pB_f hno]
        simp [*]
end Go.Proofs.YtmaambipopgdkaaGreat.Cw

/-
  The sample registry is right; what two of its classes violate.
-/
namespace Go.Proofs.YtmaambipopgdkaaGreat.Cw
open Go.Cw Go.Proofs
set_option linter.unusedVariables false
set_option maxRecDepth 100000
set_option maxHeartbeats 8000000

def sK (x : UInt8) : Class := ⟨ByteArray.mk #[99, x], ByteArray.mk #[65], ByteArray.mk #[80, x], 1, [15], 0, [], [], []⟩
def sR : Reg := ⟨⟨5, 10, 480, 45⟩, ⟨2, 4, []⟩, [], ⟨[], []⟩, [], [sK 49, sK 50, sK 51], [], []⟩
/-- A rule on all classes. -/
def sU (kind n : Int) : Rule := ⟨ByteArray.mk #[117], 0, kind, .mk 1 (ByteArray.mk #[]) [], .mk 0 (ByteArray.mk #[]) [], n, [], [], 0⟩
theorem code1 {x : UInt8} (h : chrP 0 x.toNat) : codeP (ByteArray.mk #[x]) := by
  refine ⟨(show 1 ≤ 1 by decide), (show 1 ≤ 16 by decide), fun i hi b hb => ?_⟩
  have : i = 0 := by have : i < 1 := hi; omega
  subst this
  obtain rfl : x = b := Option.some.inj hb
  exact h
theorem code2 {x y : UInt8} (h : chrP 0 x.toNat) (h2 : chrP 1 y.toNat) : codeP (ByteArray.mk #[x, y]) := by
  refine ⟨(show 1 ≤ 2 by decide), (show 2 ≤ 16 by decide), fun i hi b hb => ?_⟩
  have : i = 0 ∨ i = 1 := by have : i < 2 := hi; omega
  rcases this with rfl | rfl
  · obtain rfl : x = b := Option.some.inj hb
    exact h
  · obtain rfl : y = b := Option.some.inj hb
    exact h2
theorem asc_nil : ascP [] := ⟨fun i hi => absurd hi (Nat.not_lt_zero _), fun i hi => absurd hi (Nat.not_lt_zero _)⟩
theorem sGrid : gridP ⟨5, 10, 480, 45⟩ := by refine ⟨?_, ?_, ?_, ?_, ?_, ?_, ?_, ?_, ?_⟩ <;> decide
theorem sWeek : weekP ⟨5, 10, 480, 45⟩ 4 := ⟨sGrid, by decide, by decide⟩
theorem sPats : patsE [15] 4 = 0 := by
  unfold patsE
  rw [if_neg (by decide), if_neg (by decide)]
  have h : patE [15] 4 0 = 0 := pE3 rfl ⟨by decide, by decide, by decide, by decide⟩ (pB_f (by simp))
  show (if (0 : Int) = 0 then patE [15] 4 0 else 0) = 0
  rw [if_pos rfl, h]
theorem sCls {x : UInt8} (h : digB x.toNat = true) : clsE (sK x) ⟨5, 10, 480, 45⟩ 4 = 0 := by
  have h1 : codeP (sK x).code := code2 (by unfold chrP; decide) (.inl h)
  have h2 : codeP (sK x).course := code1 (by unfold chrP; decide)
  have h3 : codeP (sK x).part := code2 (by unfold chrP; decide) (.inl h)
  have h4 : 1 ≤ (sK x).len ∧ (sK x).len ≤ (Grid.mk 5 10 480 45).slots := (show (1 : Int) ≤ 1 ∧ (1 : Int) ≤ 10 by decide)
  have h5 : startsP (sK x).starts (sK x).len ⟨5, 10, 480, 45⟩ := fun i hi => absurd hi (Nat.not_lt_zero _)
  rw [kE8 h1 h2 h3 h4 sPats (show (0 : Int) ≤ 0 ∧ (0 : Int) ≤ 9999 by decide) (show 0 ≤ 8 ∧ 0 ≤ 8 by decide) asc_nil asc_nil (show 0 ≤ 24 by decide), pB_t h5, if_pos rfl]
theorem sClasses : classesE [sK 49, sK 50, sK 51] ⟨5, 10, 480, 45⟩ 4 = 0 := by
  unfold classesE
  rw [if_neg (fun h => h sWeek), if_neg (by decide)]
  refine firstE_zero fun i hi => ?_
  have hi : i < 3 := hi
  have : i = 0 ∨ i = 1 ∨ i = 2 := by omega
  rcases this with rfl | rfl | rfl
  · exact mE3' (c := sK 49) rfl (sCls (by decide)) rfl
  · refine mE3' (c := sK 50) rfl (sCls (by decide)) ?_
    show (pB ((sK 49).code = (sK 50).code) || false) = false
    rw [pB_f (by decide)]; rfl
  · refine mE3' (c := sK 51) rfl (sCls (by decide)) ?_
    show (pB ((sK 49).code = (sK 51).code) || (pB ((sK 50).code = (sK 51).code) || false)) = false
    rw [pB_f (by decide), pB_f (by decide)]; rfl
theorem sTrav : travE ⟨[], []⟩ = 0 := by
  unfold travE
  rw [if_neg (by decide), if_neg (by decide), if_neg (fun h => h ⟨rfl, fun x hx => by cases hx⟩), if_neg (fun h => h fun i hi => absurd hi (Nat.not_lt_zero _))]
theorem regE_sR : regE sR = 0 := by
  refine rE3' ?_ ?_
  · have g1 : gridE sR.grid = 0 := by unfold gridE; rw [show gridP sR.grid = gridP ⟨5, 10, 480, 45⟩ from rfl, pB_t sGrid, if_pos rfl]
    have g2 : termE sR.term = 0 := by
      unfold termE
      rw [if_neg (by decide), if_neg (by decide), if_neg (by decide), if_neg (by decide)]; rfl
    have g3 : roomsE sR.rooms sR.grid sR.term.weeks = 0 := by unfold roomsE; rw [show weekP sR.grid sR.term.weeks = weekP ⟨5, 10, 480, 45⟩ 4 from rfl, pB_t sWeek, if_pos rfl, if_neg (by decide)]; rfl
    have g4 : travE sR.travel = 0 := sTrav
    have g5 : staffE sR.staff sR.grid sR.term.weeks = 0 := by unfold staffE; rw [if_neg (fun h => h sWeek), if_neg (by decide)]; rfl
    have g6 : classesE sR.classes sR.grid sR.term.weeks = 0 := sClasses
    have g7 : currisE sR.curris = 0 := by unfold currisE; rw [if_neg (by decide)]; rfl
    have g8 : reqsE sR.reqs = 0 := by unfold reqsE; rw [if_neg (by decide)]; rfl
    unfold partsE
    rw [g1, g2, g3, g4, g5, g6, g7, g8]; rfl
  · rfl
theorem sSel : selP (.mk 1 (ByteArray.mk #[]) []) := ⟨by decide, by decide, rfl⟩
theorem sRule {kind n : Int} (h : kind = 1 ∨ kind = 3 ∨ kind = 8) (hn : 0 ≤ n ∧ n ≤ 7) (h0 : kind ≠ 8 → n = 0) : ruleE (sU kind n) sR.grid sR.term.weeks = 0 := by
  have hl : listE (sU kind n) sR.grid sR.term.weeks = 0 := by
    unfold listE
    have e1 : (sU kind n).kind ≠ 10 := by show kind ≠ 10; omega
    have e2 : (sU kind n).kind ≠ 11 := by show kind ≠ 11; omega
    have n0 : ¬ ((0 : Nat) : Int) > 0 := by decide
    have n1 : ¬ (((sU kind n).times.length : Nat) : Int) > 24 := show ¬ ((0 : Nat) : Int) > 24 by decide
    have n2 : ¬ (((sU kind n).rooms.length : Nat) : Int) > 16 := show ¬ ((0 : Nat) : Int) > 16 by decide
    rw [if_neg (fun h => n0 h.2), if_neg (fun h => e1 h.1), if_neg n1, if_neg (fun h => h fun t ht => by cases ht), if_neg (fun h => n0 h.2), if_neg (fun h => e2 h.1), if_neg n2]
    rfl
  have hs : selsP (sU kind n) := ⟨sSel, fun h6 => by have h6 : kind = 6 := h6; omega, fun _ => ⟨rfl, rfl, rfl⟩⟩
  have hc : codeP (sU kind n).name := code1 (by unfold chrP; decide)
  unfold ruleE
  rw [if_neg (fun h => h sWeek), if_neg (fun h => h hc), if_neg (by show ¬ ((0 : Int) < 0 ∨ (0 : Int) > 1000); decide), if_neg (by show ¬ (kind < 1 ∨ kind > 12); omega), if_neg (fun h => h hs), if_neg ?_, if_neg (fun h => h hl), if_neg (by show ¬ ((0 : Int) < 0); decide)]
  show ¬ (n < 0 ∨ n > 24 ∨ (¬ numP kind ∧ n ≠ 0))
  rintro (h1 | h1 | ⟨h1, h2⟩)
  · omega
  · omega
  · by_cases e : kind = 8
    · exact h1 (.inr (.inl e))
    · exact h2 (h0 e)
theorem selE_s : selE sR (.mk 1 (ByteArray.mk #[]) []) = 0 ∧ memB sR (.mk 1 (ByteArray.mk #[]) []) = [true, true, true] := by
  have hk : knownS sR (.mk 1 (ByteArray.mk #[]) []) = true := by
    rw [knownS, pB_f (by unfold namedP; omega)]; rfl
  refine ⟨(selE_ok sSel hk).1, ?_⟩
  have h : ∀ c, hasS sR c (.mk 1 (ByteArray.mk #[]) []) = true := fun c => by
    rw [hasS, if_neg (by decide), if_neg (by decide), if_neg (by decide)]
    exact if_pos rfl
  show [hasS sR (sK 49) _, hasS sR (sK 50) _, hasS sR (sK 51) _] = _
  rw [h, h, h]
theorem newE_s {kind n : Int} (h : kind = 1 ∨ kind = 3 ∨ kind = 8) (hn : 0 ≤ n ∧ n ≤ 7) (h0 : kind ≠ 8 → n = 0) : newE sR (sU kind n) = 0 := by
  unfold newE
  rw [if_neg (fun e => e (sRule h hn h0)), if_neg (fun e => e selE_s.1), if_neg (fun e => by have : kind = 6 := e.1; omega)]
  exact if_neg (by show ¬ (([] : List Str).any _) = true; simp)
theorem ruleL_s {kind n : Int} : RuleL (sU kind n) := ⟨.mk (by decide) (fun q hq => by cases hq), .mk (by decide) (fun q hq => by cases hq), (show 0 ≤ 9223372036854775807 by decide), (show 0 ≤ 9223372036854775807 by decide)⟩
theorem c_classIn (r : Reg) (i : Int) (hl : r.classes.length ≤ 100000) : PCall Tryz.prog 65 [ag r.cells, vint .i64 i] (fun a => a = vbool (decide (0 ≤ i ∧ i < (r.classes.length : Int)))) := by
  refine acall_of tok mixed 14 rfl (fn := Tryz.f65) (c := Tryz.f65.body.getD .skip) (by kernel_rfl) (by kernel_rfl) (by kernel_rfl) rfl 0 rfl ?_
  repeat' (first | refine o1 ?_ | refine o2 ?_ | refine k1 ?_ | refine k2 ?_ | refine k7 ?_ | refine And.intro ?_ ?_ | (intro h; first | exact Bool.noConfusion h | exact nz _ h | exact nl h | (simp at h; done) | (simp at h; first | (exfalso; omega) | skip) | skip) | (change retOk _ _ _ _; refine ret_pure rfl trivial ?_) | refine eqv_len_map ?_ | fail)
  all_goals
    refine congrArg vbool ?_
    simp; try omega
/-- Together, of the sample. -/
theorem c_togS {kind n : Int} (h : kind = 1 ∨ kind = 3 ∨ kind = 8) (hn : 0 ≤ n ∧ n ≤ 7) (h0 : kind ≠ 8 → n = 0) (a b : Placed) :
    PCall Tryz.prog 27 [ag sR.cells, ag (sU kind n).row, vint .i64 0, vint .i64 2, ag a.row, ag b.row] (fun v => v = .tup [vint .i64 (if pB (pairP2 sR (sU kind n) ⟨[], []⟩ a b) then 1 else 0), vint .i64 0]) := by
  have h1 := c_checked sR (sU kind n) ⟨[], []⟩ ruleL_s fun _ h12 => by have h12 : kind = 12 := h12; omega
  have e1 : newS sR (sU kind n) = [] := if_neg (by show ¬ kind = 6; omega)
  have e2 : newW sR (sU kind n) ⟨[], []⟩ = ⟨[], []⟩ := if_neg (by show ¬ kind = 12; omega)
  have e3 : chkE sR (sU kind n) = 0 := by unfold chkE; rw [if_pos regE_sR, newE_s h hn h0]
  have e4 : chkP sR (sU kind n) ⟨[], []⟩ = .ia (judgeC sR (sU kind n) [true, true, true] [] ⟨[], []⟩) := by
    unfold chkP newP
    rw [if_pos regE_sR, if_pos (newE_s h hn h0), e1, e2]
    show PV.ia (judgeC sR (sU kind n) (memB sR (.mk 1 (ByteArray.mk #[]) [])) _ _) = _
    rw [selE_s.2]
  rw [e3, e4] at h1
  have h2 := c_together sR (sU kind n) [true, true, true] [] ⟨[], []⟩ 0 2 true true true true a b ⟨by decide, by decide, fun x hx => by cases hx⟩ rfl rfl (fun e => by have : kind = 6 := e; omega) (fun e => by have : kind = 6 := e; omega)
  rw [togB_pair (by show ¬ kind = 6; omega)] at h2
  have h3 := c_classIn sR 0 (by decide)
  have h4 := c_classIn sR 2 (by decide)
  generalize pB (pairP2 sR (sU kind n) ⟨[], []⟩ a b) = X at *
  refine acall_of tok mixed 48 rfl (fn := Tryz.f27) (c := Tryz.f27.body.getD .skip) (by kernel_rfl) (by kernel_rfl) (by kernel_rfl) rfl 0 rfl ?_
  repeat' (first | ((change vcFun _ _ _ _ _; refine call_frz rfl (by repeat' (first | trivial | refine And.intro ?_ ?_ | (show 0 + _ ≤ List.length _; simp))) ALeL.refl h1 ?_; rintro _ rfl)) | refine o1 ?_ | refine o2 ?_ | refine k1 ?_ | refine k2 ?_ | refine k3 ?_ | refine k4 ?_ | refine k6 ?_ | refine k7 ?_ | refine And.intro ?_ ?_ | (intro h; first | exact Bool.noConfusion h | exact nz _ h | exact nl h | (simp at h; done) | (simp at h; first | (exfalso; omega) | skip) | skip) | (change retOk _ _ _ _; refine ret_pure rfl trivial ?_) | (change vcFun _ _ _ _ _; refine call_eq rfl (by repeat' (first | trivial | refine And.intro ?_ ?_ | (show 0 + _ ≤ List.length _; simp))) ALeL.refl (h2) rfl ?_) | (change vcFun _ _ _ _ _; refine call_eq rfl (by repeat' (first | trivial | refine And.intro ?_ ?_ | (show 0 + _ ≤ List.length _; simp))) ALeL.refl (h3) rfl ?_) | (change vcFun _ _ _ _ _; refine call_eq rfl (by repeat' (first | trivial | refine And.intro ?_ ?_ | (show 0 + _ ≤ List.length _; simp))) ALeL.refl (h4) rfl ?_) | fail)
  all_goals rfl
end Go.Proofs.YtmaambipopgdkaaGreat.Cw

/-
  The sample registry, built.
-/
namespace Go.Proofs.YtmaambipopgdkaaGreat.Cw
open Go.Cw Go.Proofs
set_option linter.unusedVariables false
set_option maxRecDepth 100000
set_option maxHeartbeats 8000000
theorem c_sample0 : PCall Tryz.prog 23 [] (fun a => Leq a (ag sR.cells)) := by
  refine acall_of tok mixed 30 rfl (fn := Tryz.f23) (c := Tryz.f23.body.getD .skip) (by kernel_rfl) (by kernel_rfl) (by kernel_rfl) rfl 0 rfl ?_
  repeat' (first | refine o1 ?_ | refine o2 ?_ | refine k1 ?_ | refine k2 ?_ | refine k4 ?_ | refine And.intro ?_ ?_ | exact (by kernel_rfl : drawOk _ _ = true) | fail)
  refine code_rounds 4 ?_
  repeat' (first | (refine ⟨ByteArray.mk #[49], rfl, rfl, ?_⟩) | (refine ⟨ByteArray.mk #[50], rfl, rfl, ?_⟩) | (refine ⟨ByteArray.mk #[51], rfl, rfl, ?_⟩) | refine o1 ?_ | refine o2 ?_ | refine k1 ?_ | refine k2 ?_ | refine k3 ?_ | refine k4 ?_ | refine k6 ?_ | refine k7 ?_ | refine k8 ?_ | refine And.intro ?_ ?_ | (intro h; first | exact Bool.noConfusion h | exact nz _ h | exact nl h | (simp at h; done) | (simp at h; first | (exfalso; omega) | skip) | skip) | (refine (?_ : srcLen _ = rowsLen _); rfl) | exact Nat.le_of_ble_eq_true rfl | refine eqv_zero ?_ | refine eqv_wrap (by omega) (by omega) ?_ | refine eqv_u8 (by omega) (by omega) ?_ | (refine (?_ : _ = rowsLen _); simp [rowsLen] <;> omega) | (refine eqv_rfl ?_) | fail)
  change retOk _ _ _ _
  refine ret_pure rfl ?_ ?_
  · repeat' (first | exact True.intro | exact Nat.le_refl _ | refine And.intro ?_ ?_)
    intro r hr
    rcases List.mem_cons.1 hr with rfl | hr
    · repeat' (first | exact True.intro | exact Nat.le_refl _ | refine And.intro ?_ ?_)
    rcases List.mem_cons.1 hr with rfl | hr
    · repeat' (first | exact True.intro | exact Nat.le_refl _ | refine And.intro ?_ ?_)
    rcases List.mem_cons.1 hr with rfl | hr
    · repeat' (first | exact True.intro | exact Nat.le_refl _ | refine And.intro ?_ ?_)
    · cases hr
  · refine ⟨ALe.agg (l := pvs _) (m := pvs sR.cells) ?_⟩
    have hk : ∀ x : UInt8, PLeL [es (ByteArray.mk #[99] ++ ByteArray.mk #[x]), es (ByteArray.mk #[65]), es (ByteArray.mk #[80] ++ ByteArray.mk #[x]), ei 1, .sl 1 [[ei 15]], ei 0, .val (.slice none 0 0), .val (.slice none 0 0), .val (.slice none 0 0)] (sK x).row := fun x =>
      ⟨PLe.refl, PLe.refl, PLe.refl, PLe.refl, PLe.refl, PLe.refl, PLe.nil, PLe.nil, PLe.nil, trivial⟩
    have nn : ∀ z, ALe (.pv (.val (.slice none 0 0))) (.pv (.sl z [])) := fun z => ALe.pv PLe.nil
    exact ⟨ALe.refl, ALe.refl, ALe.refl, ALe.refl, ALe.refl, ALe.refl, nn _, nn _, nn _, nn _, nn _, ALe.pv (PLe.sl ⟨hk 49, hk 50, hk 51, trivial⟩), nn _, nn _, trivial⟩
theorem c_sample : PCall Tryz.prog 23 [] (fun a => a = ag sR.cells) := c_sample0.weak fun r h => ⟨_, h.le, rfl⟩
end Go.Proofs.YtmaambipopgdkaaGreat.Cw
