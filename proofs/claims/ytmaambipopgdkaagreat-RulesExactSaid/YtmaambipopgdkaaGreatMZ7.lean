/-
  Part 7 of the proof (K3, S10, S11, K4, K5, K6, K10, K1, K7, K8): what later parts use. No conditions.
-/
import Derived.Laws.AppendOwn
import Derived.WalkKit
import Derived.Deep.LoopGhost
import Derived.Lib.Walk
import Derived.Lib.SliceRun
import Derived.Shelf.RegionOpenPlain
import Derived.Test.YtmaambipopgdkaaGreatMZ6

/-
  How many classes there are beyond a number, over all weeks and days.
-/
namespace Go.Proofs.YtmaambipopgdkaaGreat.Cw
open Go Go.Cw Go.Proofs
set_option linter.unusedVariables false
set_option maxRecDepth 100000
set_option maxHeartbeats 8000000
def sumI (f : Nat → Int) : Nat → Int
  | 0 => 0
  | m + 1 => sumI f m + f m
def accI (s : Int) (f : Nat → Int) : Nat → Int
  | 0 => s
  | m + 1 => accI s f m + f m
theorem accI_eq {s : Int} {f : Nat → Int} : ∀ m, accI s f m = s + sumI f m
  | 0 => by simp [accI, sumI]
  | m + 1 => by simp only [accI, sumI, accI_eq m]; omega
theorem sumI_le {f : Nat → Int} {B : Int} (h : ∀ j, 0 ≤ f j ∧ f j ≤ B) : ∀ m : Nat, 0 ≤ sumI f m ∧ sumI f m ≤ m * B
  | 0 => by simp [sumI]
  | m + 1 => by
    have h1 := sumI_le h m
    have h2 := h m
    have e : ((m + 1 : Nat) : Int) * B = m * B + B := by rw [Int.natCast_add, Int.add_mul]; simp
    rw [e]
    simp only [sumI]
    omega
noncomputable def onN (F : List Bool) (p : List Placed) (w : Nat) (d : Int) (i : Nat) : Int := match F[i]?, p[i]? with
  | some true, some a => if pB (onP a w d) then 1 else 0
  | _, _ => 0
noncomputable def dayN (F : List Bool) (p : List Placed) (w : Nat) (d : Int) : Int := sumI (onN F p w d) p.length
noncomputable def overN (F : List Bool) (p : List Placed) (n : Int) (w d : Nat) : Int := max 0 (dayN F p w d - n)
noncomputable def weekN (F : List Bool) (p : List Placed) (n : Int) (w : Nat) : Int := sumI (overN F p n w) 7
noncomputable def beyN (F : List Bool) (p : List Placed) (n : Int) : Int := sumI (weekN F p n) 20
theorem onN_le {F : List Bool} {p : List Placed} {w : Nat} {d : Int} (i : Nat) : 0 ≤ onN F p w d i ∧ onN F p w d i ≤ 1 := by
  unfold onN
  (repeat' split) <;> omega
theorem onN_no {F : List Bool} {p : List Placed} {w : Nat} {d : Int} {i : Nat} (h : F[i]? = some false) : onN F p w d i = 0 := by unfold onN; rw [h]
theorem onN_yes {F : List Bool} {p : List Placed} {w : Nat} {d : Int} {i : Nat} {a : Placed} (h : F[i]? = some true) (ha : p[i]? = some a) : onN F p w d i = if pB (onP a w d) then 1 else 0 := by unfold onN; rw [h, ha]
theorem dayN_le {F : List Bool} {p : List Placed} {w : Nat} {d : Int} : 0 ≤ dayN F p w d ∧ dayN F p w d ≤ p.length := by
  have := sumI_le (onN_le (F := F) (p := p) (w := w) (d := d)) p.length
  unfold dayN; omega
theorem overN_le {F : List Bool} {p : List Placed} {n : Int} {w : Nat} (hn : 0 ≤ n) (d : Nat) : 0 ≤ overN F p n w d ∧ overN F p n w d ≤ p.length := by
  have := dayN_le (F := F) (p := p) (w := w) (d := d)
  unfold overN; omega
theorem weekN_le {F : List Bool} {p : List Placed} {n : Int} (hn : 0 ≤ n) (w : Nat) : 0 ≤ weekN F p n w ∧ weekN F p n w ≤ 7 * p.length := sumI_le (overN_le hn) 7
theorem c_beyond (r : Reg) (u : Rule) (F S : List Bool) (W : Travel) (p : List Placed) (hF : F.length = p.length) (hp : p.length ≤ 100000) (hn : 0 ≤ u.n ∧ u.n ≤ 24) :
    PCall Tryz.prog 53 [.pv (.ia (judgeC r u F S W)), .pv (.sl 5 (p.map Placed.row))] (fun v => v = vint .i64 (beyN F p u.n)) := by
  refine acall_of tok mixed 54 rfl (fn := Tryz.f53) (c := Tryz.f53.body.getD .skip) (by kernel_rfl) (by kernel_rfl) (by kernel_rfl) rfl 0 rfl ?_
  repeat' (first | refine o1 ?_ | refine o2 ?_ | refine k1 ?_ | refine k2 ?_ | refine k4 ?_ | fail)
  refine loop_at (fun w : Nat => [(6, vint .i64 ((w : Int) + 1)), (5, vint .i64 (sumI (weekN F p u.n) w))]) (fun _ => []) (fun w => w ≤ 20) (fun w => 20 - w) 0 (by omega) (by repeat' (first | exact trivial | exact ⟨_, rfl, ALe.refl⟩ | refine And.intro ?_ ?_)) (by repeat' (first | exact trivial)) ?_
  intro w hw
  have hA : ∀ m : Nat, 0 ≤ sumI (weekN F p u.n) m ∧ sumI (weekN F p u.n) m ≤ m * 700000 := sumI_le fun j => by have := weekN_le (F := F) (p := p) hn.1 j; omega
  have hA1 := hA w
  have hA2 := hA (w + 1)
  have hAe : sumI (weekN F p u.n) (w + 1) = sumI (weekN F p u.n) w + weekN F p u.n w := rfl
  rcases Nat.lt_or_ge w 20 with hlt | hge
  · repeat' (first | refine o1 ?_ | refine o2 ?_ | refine k1 ?_ | refine k2 ?_ | refine k3 ?_ | refine k4 ?_ | refine k6 ?_ | refine And.intro ?_ ?_ | (intro h; first | exact Bool.noConfusion h | exact nz _ h | exact nl h | (simp at h; done) | (simp at h; first | (exfalso; omega) | skip) | skip) | fail)
    refine loop_at (fun d : Nat => [(15, vint .i64 d), (5, vint .i64 (accI (sumI (weekN F p u.n) w) (overN F p u.n w) d))]) (fun _ => []) (fun d => d ≤ 7) (fun d => 7 - d) 0 (by omega) (by repeat' (first | exact trivial | exact ⟨_, rfl, ALe.refl⟩ | refine And.intro ?_ ?_)) (by repeat' (first | exact trivial)) ?_
    intro d hd
    have hB : ∀ m : Nat, 0 ≤ sumI (overN F p u.n w) m ∧ sumI (overN F p u.n w) m ≤ m * 100000 := sumI_le fun j => by have := overN_le (F := F) (p := p) (w := w) hn.1 j; omega
    have hB1 := hB d
    have hBa := accI_eq (s := sumI (weekN F p u.n) w) (f := overN F p u.n w) d
    have hBe : accI (sumI (weekN F p u.n) w) (overN F p u.n w) (d + 1) = accI (sumI (weekN F p u.n) w) (overN F p u.n w) d + overN F p u.n w d := rfl
    have hB2 := overN_le (F := F) (p := p) (w := w) hn.1 d
    rcases Nat.lt_or_ge d 7 with hdl | hdg
    · repeat' (first | refine o1 ?_ | refine o2 ?_ | refine k1 ?_ | refine k2 ?_ | refine k3 ?_ | refine k4 ?_ | refine k6 ?_ | refine And.intro ?_ ?_ | (intro h; first | exact Bool.noConfusion h | exact nz _ h | exact nl h | (simp at h; done) | (simp at h; first | (exfalso; omega) | skip) | skip) | refine eqv_len_map ?_ | fail)
      refine loop_at (fun i : Nat => [(20, vint .i64 i), (8, vint .i64 (sumI (onN F p w d) i))]) (fun _ => []) (fun i => i ≤ p.length) (fun i => p.length - i) 0 (by omega) (by repeat' (first | exact trivial | exact ⟨_, rfl, ALe.refl⟩ | refine And.intro ?_ ?_)) (by repeat' (first | exact trivial)) ?_
      intro i hi
      have hC := sumI_le (onN_le (F := F) (p := p) (w := w) (d := d)) i
      have hCe : sumI (onN F p w d) (i + 1) = sumI (onN F p w d) i + onN F p w d i := rfl
      rcases Nat.lt_or_ge i p.length with hil | hig
      · obtain ⟨a, ha⟩ := getE hil
        obtain ⟨fi, hfi⟩ := getE (l := F) (i := i) (by omega)
        have hon := c_on a w d hlt
        have hyes := onN_yes (F := F) (w := w) (d := (d : Int)) (i := i) (a := a) (p := p)
        have hno := onN_no (F := F) (w := w) (d := (d : Int)) (i := i) (p := p)
        generalize pB (onP a w d) = ob at *
        cases fi
        · have e : sumI (onN F p w d) (i + 1) = sumI (onN F p w d) i + if false = true then 1 else 0 := by rw [hCe, hno hfi]; rfl
          repeat' (first | (refine idx_sl (k := i) (at_map ha) rfl ?_) | (refine idx_sl (k := i) (at_map hfi) rfl ?_) | refine o1 ?_ | refine o2 ?_ | refine k1 ?_ | refine k2 ?_ | refine k3 ?_ | refine k4 ?_ | refine k6 ?_ | refine And.intro ?_ ?_ | (intro h; first | exact Bool.noConfusion h | exact nz _ h | exact nl h | (simp at h; done) | (simp at h; first | (exfalso; omega) | skip) | skip) | exact (by kernel_rfl : drawOk _ _ = true) | refine eqv_wrap (by omega) (by omega) ?_ | (change vcFun _ _ _ _ _; refine call_eq rfl (by repeat' (first | trivial | refine And.intro ?_ ?_ | (show 0 + _ ≤ List.length _; simp))) ALeL.refl (c_oneB _) rfl ?_) | fail)
          refine ⟨i + 1, by omega, by omega, ?_⟩
          dsimp only
          rw [e]
          exact back [] rfl rfl trivial (by repeat' (first | exact trivial | exact rfl | refine And.intro ?_ ?_))
        · have e : sumI (onN F p w d) (i + 1) = sumI (onN F p w d) i + if ob = true then 1 else 0 := by rw [hCe, hyes hfi ha]
          have hob : 0 ≤ (if ob = true then (1 : Int) else 0) ∧ (if ob = true then (1 : Int) else 0) ≤ 1 := by split <;> omega
          repeat' (first | (refine idx_sl (k := i) (at_map ha) rfl ?_) | (refine idx_sl (k := i) (at_map hfi) rfl ?_) | refine o1 ?_ | refine o2 ?_ | refine k1 ?_ | refine k2 ?_ | refine k3 ?_ | refine k4 ?_ | refine k6 ?_ | refine And.intro ?_ ?_ | (intro h; first | exact Bool.noConfusion h | exact nz _ h | exact nl h | (simp at h; done) | (simp at h; first | (exfalso; omega) | skip) | skip) | exact (by kernel_rfl : drawOk _ _ = true) | refine eqv_wrap (by omega) (by omega) ?_ | (change vcFun _ _ _ _ _; refine call_eq rfl (by repeat' (first | trivial | refine And.intro ?_ ?_ | (show 0 + _ ≤ List.length _; simp))) ALeL.refl (hon) rfl ?_) | (change vcFun _ _ _ _ _; refine call_eq rfl (by repeat' (first | trivial | refine And.intro ?_ ?_ | (show 0 + _ ≤ List.length _; simp))) ALeL.refl (c_oneB _) rfl ?_) | fail)
          refine ⟨i + 1, by omega, by omega, ?_⟩
          dsimp only
          rw [e]
          exact back [] rfl rfl trivial (by repeat' (first | exact trivial | exact rfl | refine And.intro ?_ ?_))
      · obtain rfl : i = p.length := by omega
        have hX : (bif true then if sumI (onN F p w d) p.length - u.n > 0 then sumI (onN F p w d) p.length - u.n else 0 else if sumI (onN F p w d) p.length - u.n < 0 then sumI (onN F p w d) p.length - u.n else 0) = overN F p u.n w d := by
          show (if sumI (onN F p w d) p.length - u.n > 0 then sumI (onN F p w d) p.length - u.n else 0) = max 0 (sumI (onN F p w d) p.length - u.n)
          split <;> omega
        repeat' (first | ((refine eqv_wrap (by rw [hX]; omega) (by rw [hX]; omega) ?_)) | refine o1 ?_ | refine o2 ?_ | refine k1 ?_ | refine k2 ?_ | refine k3 ?_ | refine k8 ?_ | refine And.intro ?_ ?_ | (intro h; first | exact Bool.noConfusion h | exact nz _ h | exact nl h | (simp at h; done) | (simp at h; first | (exfalso; omega) | skip) | skip) | refine eqv_wrap (by omega) (by omega) ?_ | fail)
        refine ⟨d + 1, by omega, by omega, ?_⟩
        rw [hBe, ← hX]
        exact back [] rfl rfl trivial (by repeat' (first | exact trivial | exact rfl | refine And.intro ?_ ?_))
    · obtain rfl : d = 7 := by omega
      have e7 : accI (sumI (weekN F p u.n) w) (overN F p u.n w) 7 = sumI (weekN F p u.n) (w + 1) := by rw [accI_eq]; rfl
      rw [e7]
      repeat' (first | refine o1 ?_ | refine o2 ?_ | refine k1 ?_ | refine k2 ?_ | refine k3 ?_ | refine k8 ?_ | refine And.intro ?_ ?_ | (intro h; first | exact Bool.noConfusion h | exact nz _ h | exact nl h | (simp at h; done) | (simp at h; first | (exfalso; omega) | skip) | skip) | refine eqv_wrap (by omega) (by omega) ?_ | fail)
      exact ⟨w + 1, by omega, by omega, back [] rfl rfl trivial (by repeat' (first | exact trivial | exact rfl | refine And.intro ?_ ?_))⟩
  · obtain rfl : w = 20 := by omega
    repeat' (first | refine o1 ?_ | refine o2 ?_ | refine k1 ?_ | refine k2 ?_ | refine k3 ?_ | refine k7 ?_ | refine k8 ?_ | refine And.intro ?_ ?_ | (intro h; first | exact Bool.noConfusion h | exact nz _ h | exact nl h | (simp at h; done) | (simp at h; first | (exfalso; omega) | skip) | skip) | (change retOk _ _ _ _; refine ret_pure rfl trivial ?_) | fail)
    rfl
end Go.Proofs.YtmaambipopgdkaaGreat.Cw

/-
  The reference's pairs; what two classes, and one, violate.
-/
namespace Go.Proofs.YtmaambipopgdkaaGreat.Cw
open Go.Cw Go.Proofs
set_option linter.unusedVariables false
set_option maxRecDepth 100000
set_option maxHeartbeats 8000000

theorem pair_none {r : Reg} {u : Rule} {W : Travel} {a b : Placed} (h : ¬ u.kind = 1 ∧ ¬ u.kind = 2 ∧ ¬ u.kind = 3 ∧ ¬ u.kind = 4 ∧ ¬ u.kind = 5 ∧ ¬ u.kind = 8 ∧ ¬ u.kind = 9 ∧ ¬ u.kind = 12) : (0 : Int) = if pB (pairP2 r u W a b) then 1 else 0 := by
  rw [pB_f fun hq => ?_]
  · rfl
  rcases hq with ⟨e, hq⟩ | ⟨e, hq⟩ | ⟨e, hq⟩ | ⟨e, hq⟩ | ⟨e, hq⟩ | ⟨e, hq⟩ | ⟨e, hq⟩ | ⟨e, hq⟩ <;> omega
theorem c_rpairJ (r : Reg) (u : Rule) (W : Travel) (a b : Placed) (hW : WayL W) :
    PCall Tryz.prog 153 [ag r.cells, ag W.row, ag u.row, ag a.row, ag b.row] (fun v => v = vint .i64 (if pB (pairP2 r u W a b) then 1 else 0)) := by
  have h1 := c_rbetween a.time b.time
  have h2 := c_rsound a.time
  have h3 := c_rsound b.time
  have h4 := c_rroomed r a
  have h5 := c_rroomed r b
  by_cases hab : roomIn r a ∧ roomIn r b
  · obtain ⟨ha, hb⟩ := hab
    rw [pB_t ha] at h4
    rw [pB_t hb] at h5
    obtain ⟨i, x, e1, hx, e2, -⟩ := room_at ha
    obtain ⟨k, y, e3, hy, e4, -⟩ := room_at hb
    have hbt := c_rtbet W x.bld y.bld hW.blds hW.slots hW.rows
    have hfar : farP r W a b (btw a.time b.time) ↔ btw a.time b.time < betV W x.bld y.bld := by
      unfold farP; rw [e2, e4]; simp [ha, hb]
    generalize betV W x.bld y.bld = BV at *
    have ea : a.row = [ei a.time.weeks, ei a.time.day, ei a.time.start, ei a.time.len, ei i] := by rw [← e1]; rfl
    have eb2 : b.row = [ei b.time.weeks, ei b.time.day, ei b.time.start, ei b.time.len, ei k] := by rw [← e3]; rfl
    rw [ea] at h4 ⊢
    rw [eb2] at h5 ⊢
    refine acall_of tok mixed 170 rfl (fn := Tryz.f153) (c := Tryz.f153.body.getD .skip) (by kernel_rfl) (by kernel_rfl) (by kernel_rfl) rfl 0 rfl ?_
    repeat' (first | (refine join_in (a := .region 3 _ _) (fun b : Bool => [(15, vbool b)]) (fun _ => [some ⟨37, 14, false, .box (pvs r.cells)⟩, some ⟨31, 2, false, .box (pvs W.row)⟩, some ⟨58, 13, false, .box (pvs u.row)⟩, some ⟨72, 5, false, .box (pvs [ei a.time.weeks, ei a.time.day, ei a.time.start, ei a.time.len, ei i])⟩, some ⟨72, 5, false, .box (pvs [ei b.time.weeks, ei b.time.day, ei b.time.start, ei b.time.len, ei k])⟩, some ⟨69, 4, false, .box (pvs a.time.row)⟩, some ⟨69, 4, false, .box (pvs b.time.row)⟩]) (fun v => v = pB (soundP a.time ∧ soundP b.time)) ⟨?_, ?_⟩) | refine o1 ?_ | refine o2 ?_ | refine k1 ?_ | refine k2 ?_ | refine And.intro ?_ ?_ | refine o3 ?_ | refine o4 ?_ | (intro h; first | exact Bool.noConfusion h | exact nz _ h | exact nl h | (simp at h; done) | (simp at h; first | (exfalso; omega) | skip) | skip) | exact (by kernel_rfl : drawOk _ _ = true) | (change vcFun _ _ _ _ _; refine call_eq rfl (by repeat' (first | trivial | refine And.intro ?_ ?_ | (show 0 + _ ≤ List.length _; simp))) ALeL.refl (h1) rfl ?_) | (change vcFun _ _ _ _ _; refine call_eq rfl (by repeat' (first | trivial | refine And.intro ?_ ?_ | (show 0 + _ ≤ List.length _; simp))) ALeL.refl (h2) rfl ?_) | (change vcFun _ _ _ _ _; refine call_eq rfl (by repeat' (first | trivial | refine And.intro ?_ ?_ | (show 0 + _ ≤ List.length _; simp))) ALeL.refl (h3) rfl ?_) | fail)
    rotate_right
    · refine ⟨fun v hv => ?_⟩
      subst hv
      repeat' (first | (refine (eqv_rfl ?_ : eqv (bits _ _ _ _) _)) | refine o1 ?_ | refine o2 ?_ | refine k1 ?_ | refine k2 ?_ | refine k3 ?_ | refine k4 ?_ | refine k6 ?_ | refine k7 ?_ | refine And.intro ?_ ?_ | refine o3 ?_ | refine o4 ?_ | (intro h; first | exact Bool.noConfusion h | exact nz _ h | exact nl h | (simp at h; done) | (simp at h; first | (exfalso; omega) | skip) | skip) | (change retOk _ _ _ _; refine ret_pure rfl trivial ?_) | exact (by kernel_rfl : drawOk _ _ = true) | refine ⟨_, _, (by first | rfl | assumption), at_map (by assumption), ?_⟩ | (change vcFun _ _ _ _ _; refine call_eq rfl (by repeat' (first | trivial | refine And.intro ?_ ?_ | (show 0 + _ ≤ List.length _; simp))) ALeL.refl (h4) rfl ?_) | (change vcFun _ _ _ _ _; refine call_eq rfl (by repeat' (first | trivial | refine And.intro ?_ ?_ | (show 0 + _ ≤ List.length _; simp))) ALeL.refl (h5) rfl ?_) | (change vcFunD _ _ _ _ _; refine callD_eq rfl (by repeat' (first | trivial | refine And.intro ?_ ?_ | (show 0 + _ ≤ List.length _; simp))) ALeL.refl (hbt) rfl ?_) | (change vcFun _ _ _ _ _; refine call_eq rfl (by repeat' (first | trivial | refine And.intro ?_ ?_ | (show 0 + _ ≤ List.length _; simp))) ALeL.refl (c_roneB _) rfl ?_) | (change vcFunD _ _ _ _ _; refine callD_eq rfl (by repeat' (first | trivial | refine And.intro ?_ ?_ | (show 0 + _ ≤ List.length _; simp))) ALeL.refl (c_roneB _) rfl ?_) | (refine eqv_rfl ?_) | fail)
      all_goals clear h1 h2 h3 h4 h5 hbt
      all_goals first
        | exact congrArg (vint .i64) (pair_none ⟨by assumption, by assumption, by assumption, by assumption, by assumption, by assumption, by assumption, by assumption⟩)
        | skip
      all_goals
        refine congrArg (vint .i64) (congrArg (fun b : Bool => if b = true then (1 : Int) else 0) ?_)
        first
          | (refine pB_eq ?_; unfold pairP2; simp [*]; done)
          | (refine (pB_f fun hq => ?_).symm
             rcases hq with ⟨e, hq⟩ | ⟨e, hq⟩ | ⟨e, hq⟩ | ⟨e, hq⟩ | ⟨e, hq⟩ | ⟨e, hq⟩ | ⟨e, hq⟩ | ⟨e, hq⟩
             all_goals first
               | (exfalso; omega)
               | exact absurd hq.1.2 ((by assumption : soundP a.time → ¬ soundP b.time) hq.1.1)
               | skip)
          | (have hm : meetP a.time b.time := by assumption
             have hk : u.kind = 9 := by assumption
             have g1 := sound_b hm.1
             have g2 := sound_b hm.2.1
             have w1 : IntKind.i64.wrap (b.time.start + b.time.len) = b.time.start + b.time.len := wrap64 (by omega) (by omega)
             have w2 : IntKind.i64.wrap (a.time.start + a.time.len) = a.time.start + a.time.len := wrap64 (by omega) (by omega)
             refine pB_eq ?_
             simp only [cond_true, cond_false, w1, w2]
             rw [wrap64 (by (repeat' split) <;> omega) (by (repeat' split) <;> omega)]
             simp only [decide_eq_true_eq]
             constructor
             · intro h
               exact .inr (.inr (.inr (.inr (.inr (.inr (.inl ⟨hk, hm, by (repeat' split at h) <;> omega⟩))))))
             · intro hq
               rcases hq with ⟨e, hq⟩ | ⟨e, hq⟩ | ⟨e, hq⟩ | ⟨e, hq⟩ | ⟨e, hq⟩ | ⟨e, hq⟩ | ⟨e, hq⟩ | ⟨e, hq⟩
               all_goals first
                 | (exfalso; omega)
                 | (have hq := hq.2; (repeat' split) <;> omega))
    all_goals
      refine ⟨_, ?_, back [0, 1, 2, 3, 4, 5, 6] rfl rfl (by repeat' (first | exact trivial | exact rfl | refine And.intro ?_ ?_)) (by repeat' (first | exact trivial | exact rfl | refine And.intro ?_ ?_))⟩
      refine pB_eq ?_
      simp [*]
  · refine acall_of tok mixed 170 rfl (fn := Tryz.f153) (c := Tryz.f153.body.getD .skip) (by kernel_rfl) (by kernel_rfl) (by kernel_rfl) rfl 0 rfl ?_
    repeat' (first | (refine join_in (a := .region 3 _ _) (fun b : Bool => [(15, vbool b)]) (fun _ => [some ⟨37, 14, false, .box (pvs r.cells)⟩, some ⟨31, 2, false, .box (pvs W.row)⟩, some ⟨58, 13, false, .box (pvs u.row)⟩, some ⟨72, 5, false, .box (pvs a.row)⟩, some ⟨72, 5, false, .box (pvs b.row)⟩, some ⟨69, 4, false, .box (pvs a.time.row)⟩, some ⟨69, 4, false, .box (pvs b.time.row)⟩]) (fun v => v = pB (soundP a.time ∧ soundP b.time)) ⟨?_, ?_⟩) | refine o1 ?_ | refine o2 ?_ | refine k1 ?_ | refine k2 ?_ | refine And.intro ?_ ?_ | refine o3 ?_ | refine o4 ?_ | (intro h; first | exact Bool.noConfusion h | exact nz _ h | exact nl h | (simp at h; done) | (simp at h; first | (exfalso; omega) | skip) | skip) | exact (by kernel_rfl : drawOk _ _ = true) | (change vcFun _ _ _ _ _; refine call_eq rfl (by repeat' (first | trivial | refine And.intro ?_ ?_ | (show 0 + _ ≤ List.length _; simp))) ALeL.refl (h1) rfl ?_) | (change vcFun _ _ _ _ _; refine call_eq rfl (by repeat' (first | trivial | refine And.intro ?_ ?_ | (show 0 + _ ≤ List.length _; simp))) ALeL.refl (h2) rfl ?_) | (change vcFun _ _ _ _ _; refine call_eq rfl (by repeat' (first | trivial | refine And.intro ?_ ?_ | (show 0 + _ ≤ List.length _; simp))) ALeL.refl (h3) rfl ?_) | fail)
    rotate_right
    · refine ⟨fun v hv => ?_⟩
      subst hv
      repeat' (first | (refine join_in (a := .region 4 _ _) (fun b : Bool => [(16, vbool b)]) (fun _ => [some ⟨37, 14, false, .box (pvs r.cells)⟩, some ⟨31, 2, false, .box (pvs W.row)⟩, some ⟨58, 13, false, .box (pvs u.row)⟩, some ⟨72, 5, false, .box (pvs a.row)⟩, some ⟨72, 5, false, .box (pvs b.row)⟩, some ⟨69, 4, false, .box (pvs a.time.row)⟩, some ⟨69, 4, false, .box (pvs b.time.row)⟩]) (fun v => v = false) ⟨?_, ?_⟩) | refine o1 ?_ | refine o2 ?_ | refine k2 ?_ | refine And.intro ?_ ?_ | (intro h; first | exact Bool.noConfusion h | exact nz _ h | exact nl h | (simp at h; done) | (simp at h; first | (exfalso; omega) | skip) | skip) | (change vcFun _ _ _ _ _; refine call_eq rfl (by repeat' (first | trivial | refine And.intro ?_ ?_ | (show 0 + _ ≤ List.length _; simp))) ALeL.refl (h4) rfl ?_) | (change vcFun _ _ _ _ _; refine call_eq rfl (by repeat' (first | trivial | refine And.intro ?_ ?_ | (show 0 + _ ≤ List.length _; simp))) ALeL.refl (h5) rfl ?_) | fail)
      rotate_right
      · refine ⟨fun v hv => ?_⟩
        subst hv
        repeat' (first | (refine (eqv_rfl ?_ : eqv (bits _ _ _ _) _)) | refine o1 ?_ | refine o2 ?_ | refine k1 ?_ | refine k2 ?_ | refine k3 ?_ | refine k4 ?_ | refine k6 ?_ | refine k7 ?_ | refine And.intro ?_ ?_ | refine o3 ?_ | refine o4 ?_ | (intro h; first | exact Bool.noConfusion h | exact nz _ h | exact nl h | (simp at h; done) | (simp at h; first | (exfalso; omega) | skip) | skip) | (change retOk _ _ _ _; refine ret_pure rfl trivial ?_) | exact (by kernel_rfl : drawOk _ _ = true) | (change vcFun _ _ _ _ _; refine call_eq rfl (by repeat' (first | trivial | refine And.intro ?_ ?_ | (show 0 + _ ≤ List.length _; simp))) ALeL.refl (c_roneB _) rfl ?_) | (change vcFunD _ _ _ _ _; refine callD_eq rfl (by repeat' (first | trivial | refine And.intro ?_ ?_ | (show 0 + _ ≤ List.length _; simp))) ALeL.refl (c_roneB _) rfl ?_) | (refine eqv_rfl ?_) | fail)
        all_goals clear h1 h2 h3 h4 h5
        all_goals first
          | exact congrArg (vint .i64) (pair_none ⟨by assumption, by assumption, by assumption, by assumption, by assumption, by assumption, by assumption, by assumption⟩)
          | skip
        all_goals
          refine congrArg (vint .i64) (congrArg (fun b : Bool => if b = true then (1 : Int) else 0) ?_)
          first
            | (refine pB_eq ?_; unfold pairP2; simp [*]; done)
            | (refine (pB_f fun hq => ?_).symm
               rcases hq with ⟨e, hq⟩ | ⟨e, hq⟩ | ⟨e, hq⟩ | ⟨e, hq⟩ | ⟨e, hq⟩ | ⟨e, hq⟩ | ⟨e, hq⟩ | ⟨e, hq⟩
               all_goals first
                 | (exfalso; omega)
                 | exact absurd hq.1.2 ((by assumption : soundP a.time → ¬ soundP b.time) hq.1.1)
                 | exact hab ⟨hq.1, hq.2.1⟩
                 | exact hab ⟨hq.2.2.1, hq.2.2.2.1⟩)
            | (have hm : meetP a.time b.time := by assumption
               have hk : u.kind = 9 := by assumption
               have g1 := sound_b hm.1
               have g2 := sound_b hm.2.1
               have w1 : IntKind.i64.wrap (b.time.start + b.time.len) = b.time.start + b.time.len := wrap64 (by omega) (by omega)
               have w2 : IntKind.i64.wrap (a.time.start + a.time.len) = a.time.start + a.time.len := wrap64 (by omega) (by omega)
               refine pB_eq ?_
               simp only [cond_true, cond_false, w1, w2]
               rw [wrap64 (by (repeat' split) <;> omega) (by (repeat' split) <;> omega)]
               simp only [decide_eq_true_eq]
               constructor
               · intro h
                 exact .inr (.inr (.inr (.inr (.inr (.inr (.inl ⟨hk, hm, by (repeat' split at h) <;> omega⟩))))))
               · intro hq
                 rcases hq with ⟨e, hq⟩ | ⟨e, hq⟩ | ⟨e, hq⟩ | ⟨e, hq⟩ | ⟨e, hq⟩ | ⟨e, hq⟩ | ⟨e, hq⟩ | ⟨e, hq⟩
                 all_goals first
                   | (exfalso; omega)
                   | (have hq := hq.2; (repeat' split) <;> omega))
      all_goals
        refine ⟨_, ?_, back [0, 1, 2, 3, 4, 5, 6] rfl rfl (by repeat' (first | exact trivial | exact rfl | refine And.intro ?_ ?_)) (by repeat' (first | exact trivial | exact rfl | refine And.intro ?_ ?_))⟩
        first
          | rfl
          | exact pB_f fun h => hab ⟨by assumption, h⟩
          | (refine pB_eq ?_; simp [*]; done)
    all_goals
      refine ⟨_, ?_, back [0, 1, 2, 3, 4, 5, 6] rfl rfl (by repeat' (first | exact trivial | exact rfl | refine And.intro ?_ ?_)) (by repeat' (first | exact trivial | exact rfl | refine And.intro ?_ ?_))⟩
      first
        | rfl
        | exact pB_f fun h => hab ⟨by assumption, h⟩
        | (refine pB_eq ?_; simp [*]; done)
end Go.Proofs.YtmaambipopgdkaaGreat.Cw

/-
  What two classes, and one, violate: judges and the reference.
-/
namespace Go.Proofs.YtmaambipopgdkaaGreat.Cw
open Go.Cw Go.Proofs
set_option linter.unusedVariables false
set_option maxRecDepth 100000
set_option maxHeartbeats 8000000

noncomputable def togB (r : Reg) (u : Rule) (W : Travel) (fi fk si sk : Bool) (a b : Placed) : Int :=
  if u.kind = 6 then (if fi && sk && pB (lateP a b) then 1 else 0) + (if fk && si && pB (lateP b a) then 1 else 0) else (if fi && fk && pB (pairP2 r u W a b) then 1 else 0)
theorem togB_six {r : Reg} {u : Rule} {W : Travel} {fi fk si sk : Bool} {a b : Placed} (h : u.kind = 6) : togB r u W fi fk si sk a b = (if fi && sk && pB (lateP a b) then 1 else 0) + (if fk && si && pB (lateP b a) then 1 else 0) := if_pos h
theorem togB_pair {r : Reg} {u : Rule} {W : Travel} {fi fk si sk : Bool} {a b : Placed} (h : ¬ u.kind = 6) : togB r u W fi fk si sk a b = (if fi && fk && pB (pairP2 r u W a b) then 1 else 0) := if_neg h
noncomputable def alnB (r : Reg) (u : Rule) (fi : Bool) (a : Placed) : Int :=
  if fi then (if u.kind = 10 then (if pB (∃ t ∈ u.times, ovP t a.time) then 1 else 0) else if u.kind = 11 then (if pB (roomIn r a ∧ ¬ codeOf r a ∈ u.rooms) then 1 else 0) else 0) else 0
theorem c_rhasN (l : List Int) (n : Int) (hl : l.length ≤ 100000) : PCall Tryz.prog 150 [.pv (encInts l), vint .i64 n] (fun r => r = vbool (pB (n ∈ l))) := by
  refine acall_of tok mixed 18 rfl (fn := Tryz.f150) (c := Tryz.f150.body.getD .skip) (by kernel_rfl) (by kernel_rfl) (by kernel_rfl) rfl 0 rfl ?_
  repeat' (first | refine o1 ?_ | refine o2 ?_ | refine k1 ?_ | refine k2 ?_ | refine k4 ?_ | fail)
  refine loop_at (fun i : Nat => [(5, vint .i64 i)]) (fun _ => []) (fun i => i ≤ l.length ∧ ∀ j, j < i → ∀ y, l[j]? = some y → ¬ y = n) (fun i => l.length - i) 0 ⟨Nat.zero_le _, fun j hj => by omega⟩ (by repeat' (first | exact trivial | exact ⟨_, rfl, ALe.refl⟩ | refine And.intro ?_ ?_)) (by repeat' (first | exact trivial)) ?_
  intro i ⟨hi, hall⟩
  rcases Nat.lt_or_ge i l.length with hlt | hge
  · obtain ⟨x, hx⟩ := getE hlt
    repeat' (first | refine o1 ?_ | refine o2 ?_ | refine k1 ?_ | refine k2 ?_ | refine k3 ?_ | refine k4 ?_ | refine k6 ?_ | refine k7 ?_ | refine And.intro ?_ ?_ | (intro h; first | exact Bool.noConfusion h | exact nz _ h | exact nl h | (simp at h; done) | (simp at h; first | (exfalso; omega) | skip) | skip) | (change retOk _ _ _ _; refine ret_pure rfl trivial ?_) | refine eqv_len_map ?_ | refine eqv_wrap (by omega) (by omega) ?_ | refine ⟨_, _, (by first | rfl | assumption), at_map (by assumption), ?_⟩ | fail)
    all_goals first
      | exact congrArg vbool (pB_t (show n ∈ l from (by assumption : x = n) ▸ List.mem_of_getElem? hx)).symm
      | exact ⟨i + 1, ⟨by omega, all_lt_succ hall fun y hy => by rw [hx] at hy; cases hy; assumption⟩, by omega, back [] rfl rfl trivial (by repeat' (first | exact trivial | exact rfl | refine And.intro ?_ ?_))⟩
  · repeat' (first | refine o1 ?_ | refine o2 ?_ | refine k1 ?_ | refine k2 ?_ | refine k3 ?_ | refine k7 ?_ | refine k8 ?_ | refine And.intro ?_ ?_ | (intro h; first | exact Bool.noConfusion h | exact nz _ h | exact nl h | (simp at h; done) | (simp at h; first | (exfalso; omega) | skip) | skip) | (change retOk _ _ _ _; refine ret_pure rfl trivial ?_) | refine eqv_len_map ?_ | fail)
    exact congrArg vbool (pB_f fun hm => by
      obtain ⟨j, hj⟩ := List.getElem?_of_mem hm
      exact hall j (by have := (List.getElem?_eq_some_iff.1 hj).1; omega) n hj rfl).symm
theorem c_rboth (r : Reg) (u : Rule) (W : Travel) (F1 S1 : List Int) (i k : Int) (a b : Placed) (hW : WayL W) (hF : F1.length ≤ 100000) (hS : S1.length ≤ 100000) :
    PCall Tryz.prog 58 [ag r.cells, ag u.row, .pv (encInts F1), .pv (encInts S1), ag W.row, vint .i64 i, vint .i64 k, ag a.row, ag b.row] (fun v => v = vint .i64 (togB r u W (pB (i ∈ F1)) (pB (k ∈ F1)) (pB (i ∈ S1)) (pB (k ∈ S1)) a b)) := by
  have h1 := c_rhasN F1 i hF
  have h2 := c_rhasN F1 k hF
  have h3 := c_rhasN S1 i hS
  have h4 := c_rhasN S1 k hS
  have h5 := c_rlate a b
  have h6 := c_rlate b a
  have h7 := c_rpairJ r u W a b hW
  generalize pB (i ∈ F1) = fi at *
  generalize pB (k ∈ F1) = fk at *
  generalize pB (i ∈ S1) = si at *
  generalize pB (k ∈ S1) = sk at *
  by_cases h : u.kind = 6
  · rw [togB_six h]
    generalize pB (lateP a b) = l1 at *
    generalize pB (lateP b a) = l2 at *
    have b1 : (if l1 = true then (1 : Int) else 0) = 0 ∨ (if l1 = true then (1 : Int) else 0) = 1 := by cases l1 <;> simp
    have b2 : (if l2 = true then (1 : Int) else 0) = 0 ∨ (if l2 = true then (1 : Int) else 0) = 1 := by cases l2 <;> simp
    generalize hx1 : (if l1 = true then (1 : Int) else 0) = x1 at *
    generalize hx2 : (if l2 = true then (1 : Int) else 0) = x2 at *
    refine acall_of tok mixed 66 rfl (fn := Tryz.f58) (c := Tryz.f58.body.getD .skip) (by kernel_rfl) (by kernel_rfl) (by kernel_rfl) rfl 0 rfl ?_
    repeat' (first | refine o1 ?_ | refine o2 ?_ | refine k1 ?_ | refine k2 ?_ | refine k3 ?_ | refine k6 ?_ | refine k7 ?_ | refine And.intro ?_ ?_ | (intro h; first | exact Bool.noConfusion h | exact nz _ h | exact nl h | (simp at h; done) | (simp at h; first | (exfalso; omega) | skip) | skip) | (change retOk _ _ _ _; refine ret_pure rfl trivial ?_) | refine eqv_wrap (by omega) (by omega) ?_ | (change vcFun _ _ _ _ _; refine call_eq rfl (by repeat' (first | trivial | refine And.intro ?_ ?_ | (show 0 + _ ≤ List.length _; simp))) ALeL.refl (h1) rfl ?_) | (change vcFun _ _ _ _ _; refine call_eq rfl (by repeat' (first | trivial | refine And.intro ?_ ?_ | (show 0 + _ ≤ List.length _; simp))) ALeL.refl (h2) rfl ?_) | (change vcFun _ _ _ _ _; refine call_eq rfl (by repeat' (first | trivial | refine And.intro ?_ ?_ | (show 0 + _ ≤ List.length _; simp))) ALeL.refl (h3) rfl ?_) | (change vcFun _ _ _ _ _; refine call_eq rfl (by repeat' (first | trivial | refine And.intro ?_ ?_ | (show 0 + _ ≤ List.length _; simp))) ALeL.refl (h4) rfl ?_) | (change vcFun _ _ _ _ _; refine call_eq rfl (by repeat' (first | trivial | refine And.intro ?_ ?_ | (show 0 + _ ≤ List.length _; simp))) ALeL.refl (h5) rfl ?_) | (change vcFun _ _ _ _ _; refine call_eq rfl (by repeat' (first | trivial | refine And.intro ?_ ?_ | (show 0 + _ ≤ List.length _; simp))) ALeL.refl (h6) rfl ?_) | fail)
    all_goals clear h1 h2 h3 h4 h5 h6
    all_goals
      refine congrArg (vint .i64) ?_
      simp [*]
  · rw [togB_pair h]
    generalize pB (pairP2 r u W a b) = l1 at *
    refine acall_of tok mixed 66 rfl (fn := Tryz.f58) (c := Tryz.f58.body.getD .skip) (by kernel_rfl) (by kernel_rfl) (by kernel_rfl) rfl 0 rfl ?_
    repeat' (first | refine o1 ?_ | refine o2 ?_ | refine k1 ?_ | refine k2 ?_ | refine k3 ?_ | refine k6 ?_ | refine k7 ?_ | refine And.intro ?_ ?_ | (intro h; first | exact Bool.noConfusion h | exact nz _ h | exact nl h | (simp at h; done) | (simp at h; first | (exfalso; omega) | skip) | skip) | (change retOk _ _ _ _; refine ret_pure rfl trivial ?_) | (change vcFun _ _ _ _ _; refine call_eq rfl (by repeat' (first | trivial | refine And.intro ?_ ?_ | (show 0 + _ ≤ List.length _; simp))) ALeL.refl (h1) rfl ?_) | (change vcFun _ _ _ _ _; refine call_eq rfl (by repeat' (first | trivial | refine And.intro ?_ ?_ | (show 0 + _ ≤ List.length _; simp))) ALeL.refl (h2) rfl ?_) | (change vcFun _ _ _ _ _; refine call_eq rfl (by repeat' (first | trivial | refine And.intro ?_ ?_ | (show 0 + _ ≤ List.length _; simp))) ALeL.refl (h7) rfl ?_) | fail)
    all_goals clear h1 h2 h3 h4 h5 h6 h7
    all_goals
      refine congrArg (vint .i64) ?_
      simp [*]
theorem c_together (r : Reg) (u : Rule) (F S : List Bool) (W : Travel) (i k : Nat) (fi fk si sk : Bool) (a b : Placed) (hW : WayL W) (hfi : F[i]? = some fi) (hfk : F[k]? = some fk) (hsi : u.kind = 6 → S[i]? = some si) (hsk : u.kind = 6 → S[k]? = some sk) :
    PCall Tryz.prog 55 [.pv (.ia (judgeC r u F S W)), vint .i64 i, vint .i64 k, ag a.row, ag b.row] (fun v => v = vint .i64 (togB r u W fi fk si sk a b)) := by
  have h5 := c_late a b
  have h6 := c_late b a
  have h7 := c_pairJ r u F S W a b hW
  by_cases h : u.kind = 6
  · have hsi := hsi h
    have hsk := hsk h
    rw [togB_six h]
    generalize pB (lateP a b) = l1 at *
    generalize pB (lateP b a) = l2 at *
    refine acall_of tok mixed 85 rfl (fn := Tryz.f55) (c := Tryz.f55.body.getD .skip) (by kernel_rfl) (by kernel_rfl) (by kernel_rfl) rfl 0 rfl ?_
    repeat' (first | (refine idx_sl (k := i) (at_map hfi) rfl ?_) | (refine idx_sl (k := k) (at_map hfk) rfl ?_) | (refine idx_sl (k := i) (at_map hsi) rfl ?_) | (refine idx_sl (k := k) (at_map hsk) rfl ?_) | refine o1 ?_ | refine o2 ?_ | refine k1 ?_ | refine k2 ?_ | refine k3 ?_ | refine k7 ?_ | refine And.intro ?_ ?_ | refine o3 ?_ | refine o4 ?_ | (intro h; first | exact Bool.noConfusion h | exact nz _ h | exact nl h | (simp at h; done) | (simp at h; first | (exfalso; omega) | skip) | skip) | (change retOk _ _ _ _; refine ret_pure rfl trivial ?_) | exact (by kernel_rfl : drawOk _ _ = true) | refine eqv_wrap (by omega) (by omega) ?_ | (change vcFunD _ _ _ _ _; refine callD_eq rfl (by repeat' (first | trivial | refine And.intro ?_ ?_ | (show 0 + _ ≤ List.length _; simp))) ALeL.refl (h5) rfl ?_) | (change vcFunD _ _ _ _ _; refine callD_eq rfl (by repeat' (first | trivial | refine And.intro ?_ ?_ | (show 0 + _ ≤ List.length _; simp))) ALeL.refl (h6) rfl ?_) | (change vcFunD _ _ _ _ _; refine callD_eq rfl (by repeat' (first | trivial | refine And.intro ?_ ?_ | (show 0 + _ ≤ List.length _; simp))) ALeL.refl (c_oneB _) rfl ?_) | fail)
    all_goals clear h5 h6 h7
    all_goals
      refine congrArg (vint .i64) ?_
      simp [*]
  · rw [togB_pair h]
    generalize pB (pairP2 r u W a b) = l1 at *
    refine acall_of tok mixed 85 rfl (fn := Tryz.f55) (c := Tryz.f55.body.getD .skip) (by kernel_rfl) (by kernel_rfl) (by kernel_rfl) rfl 0 rfl ?_
    repeat' (first | (refine idx_sl (k := i) (at_map hfi) rfl ?_) | (refine idx_sl (k := k) (at_map hfk) rfl ?_) | refine o1 ?_ | refine o2 ?_ | refine k1 ?_ | refine k2 ?_ | refine k3 ?_ | refine k6 ?_ | refine k7 ?_ | refine And.intro ?_ ?_ | (intro h; first | exact Bool.noConfusion h | exact nz _ h | exact nl h | (simp at h; done) | (simp at h; first | (exfalso; omega) | skip) | skip) | (change retOk _ _ _ _; refine ret_pure rfl trivial ?_) | (change vcFun _ _ _ _ _; refine call_eq rfl (by repeat' (first | trivial | refine And.intro ?_ ?_ | (show 0 + _ ≤ List.length _; simp))) ALeL.refl (h7) rfl ?_) | (change vcFun _ _ _ _ _; refine call_eq rfl (by repeat' (first | trivial | refine And.intro ?_ ?_ | (show 0 + _ ≤ List.length _; simp))) ALeL.refl (c_oneB _) rfl ?_) | fail)
    all_goals clear h5 h6 h7
    all_goals
      refine congrArg (vint .i64) ?_
      simp [*]
theorem c_alone1 (a : Placed) (t : Time) : PCall Tryz.prog 145 [ag t.row, .pv (.ia a.row)] (fun v => v = vbool (pB (ovP t a.time))) := by
  refine acall_of tok mixed 8 rfl (fn := Tryz.f145) (c := Tryz.f145.body.getD .skip) (by kernel_rfl) (by kernel_rfl) (by kernel_rfl) rfl 0 rfl ?_
  repeat' (first | refine o1 ?_ | refine o2 ?_ | refine k1 ?_ | refine k2 ?_ | refine k7 ?_ | (change retOk _ _ _ _; refine ret_pure rfl trivial ?_) | (change vcFun _ _ _ _ _; refine call_eq rfl (by repeat' (first | trivial | refine And.intro ?_ ?_ | (show 0 + _ ≤ List.length _; simp))) ALeL.refl (c_overlap t a.time) rfl ?_) | fail)
  rfl
theorem any_ov {l : List Time} {t : Time} : (l.any fun x => pB (ovP x t)) = pB (∃ x ∈ l, ovP x t) := pB_eq (by
  rw [List.any_eq_true]
  exact ⟨fun ⟨x, h1, h2⟩ => ⟨x, h1, by simpa using h2⟩, fun ⟨x, h1, h2⟩ => ⟨x, h1, pB_t h2⟩⟩)
theorem c_alone (r : Reg) (u : Rule) (F S : List Bool) (W : Travel) (i : Nat) (fi : Bool) (a : Placed) (hfi : F[i]? = some fi) (ht : u.times.length ≤ 100000) (hm : u.rooms.length ≤ 100000) :
    PCall Tryz.prog 54 [.pv (.ia (judgeC r u F S W)), vint .i64 i, ag a.row] (fun v => v = vint .i64 (alnB r u fi a)) := by
  have h1 := c_any_time u.times 145 [.ia a.row] (fun x => pB (ovP x a.time)) ht fun x _ => c_alone1 a x
  rw [any_ov] at h1
  have h2 := c_roomed r u F S W a
  unfold alnB
  by_cases ha : roomIn r a
  · obtain ⟨j, x, e1, hx, -, e2⟩ := room_at ha
    have h3 := c_contains u.rooms x.code hm
    rw [pB_t ha] at h2
    have hP : pB (roomIn r a ∧ ¬ codeOf r a ∈ u.rooms) = !pB (x.code ∈ u.rooms) := by
      rw [e2]
      exact (pB_eq (by simp [ha])).symm
    rw [hP]
    generalize pB (x.code ∈ u.rooms) = CB at *
    generalize pB (∃ x ∈ u.times, ovP x a.time) = OB at *
    have ea : a.row = [ei a.time.weeks, ei a.time.day, ei a.time.start, ei a.time.len, ei j] := by rw [← e1]; rfl
    rw [ea] at h1 h2 ⊢
    refine acall_of tok mixed 55 rfl (fn := Tryz.f54) (c := Tryz.f54.body.getD .skip) (by kernel_rfl) (by kernel_rfl) (by kernel_rfl) rfl 0 rfl ?_
    repeat' (first | (refine idx_sl (k := i) (at_map hfi) rfl ?_) | refine o1 ?_ | refine o2 ?_ | refine k1 ?_ | refine k2 ?_ | refine k3 ?_ | refine k4 ?_ | refine k6 ?_ | refine k7 ?_ | refine And.intro ?_ ?_ | refine o3 ?_ | refine o4 ?_ | (intro h; first | exact Bool.noConfusion h | exact nz _ h | exact nl h | (simp at h; done) | (simp at h; first | (exfalso; omega) | skip) | skip) | (change retOk _ _ _ _; refine ret_pure rfl trivial ?_) | exact (by kernel_rfl : drawOk _ _ = true) | refine ⟨_, _, (by first | rfl | assumption), at_map (by assumption), ?_⟩ | (change vcFun _ _ _ _ _; refine call_eq rfl (by repeat' (first | trivial | refine And.intro ?_ ?_ | (show 0 + _ ≤ List.length _; simp))) ALeL.refl (h1) rfl ?_) | (change vcFunD _ _ _ _ _; refine callD_eq rfl (by repeat' (first | trivial | refine And.intro ?_ ?_ | (show 0 + _ ≤ List.length _; simp))) ALeL.refl (h2) rfl ?_) | (change vcFunD _ _ _ _ _; refine callD_eq rfl (by repeat' (first | trivial | refine And.intro ?_ ?_ | (show 0 + _ ≤ List.length _; simp))) ALeL.refl (h3) rfl ?_) | (change vcFun _ _ _ _ _; refine call_eq rfl (by repeat' (first | trivial | refine And.intro ?_ ?_ | (show 0 + _ ≤ List.length _; simp))) ALeL.refl (c_oneB _) rfl ?_) | (change vcFunD _ _ _ _ _; refine callD_eq rfl (by repeat' (first | trivial | refine And.intro ?_ ?_ | (show 0 + _ ≤ List.length _; simp))) ALeL.refl (c_oneB _) rfl ?_) | fail)
    all_goals clear h1 h2 h3
    all_goals first
      | (refine congrArg (vint .i64) ?_; simp [*]; done)
  · rw [pB_f ha] at h2
    rw [pB_f (show ¬ (roomIn r a ∧ ¬ codeOf r a ∈ u.rooms) from fun h => ha h.1)]
    generalize pB (∃ x ∈ u.times, ovP x a.time) = OB at *
    refine acall_of tok mixed 55 rfl (fn := Tryz.f54) (c := Tryz.f54.body.getD .skip) (by kernel_rfl) (by kernel_rfl) (by kernel_rfl) rfl 0 rfl ?_
    repeat' (first | (refine idx_sl (k := i) (at_map hfi) rfl ?_) | refine o1 ?_ | refine o2 ?_ | refine k1 ?_ | refine k2 ?_ | refine k3 ?_ | refine k4 ?_ | refine k6 ?_ | refine k7 ?_ | refine And.intro ?_ ?_ | refine o3 ?_ | refine o4 ?_ | (intro h; first | exact Bool.noConfusion h | exact nz _ h | exact nl h | (simp at h; done) | (simp at h; first | (exfalso; omega) | skip) | skip) | (change retOk _ _ _ _; refine ret_pure rfl trivial ?_) | exact (by kernel_rfl : drawOk _ _ = true) | (change vcFun _ _ _ _ _; refine call_eq rfl (by repeat' (first | trivial | refine And.intro ?_ ?_ | (show 0 + _ ≤ List.length _; simp))) ALeL.refl (h1) rfl ?_) | (change vcFunD _ _ _ _ _; refine callD_eq rfl (by repeat' (first | trivial | refine And.intro ?_ ?_ | (show 0 + _ ≤ List.length _; simp))) ALeL.refl (h2) rfl ?_) | (change vcFun _ _ _ _ _; refine call_eq rfl (by repeat' (first | trivial | refine And.intro ?_ ?_ | (show 0 + _ ≤ List.length _; simp))) ALeL.refl (c_oneB _) rfl ?_) | (change vcFunD _ _ _ _ _; refine callD_eq rfl (by repeat' (first | trivial | refine And.intro ?_ ?_ | (show 0 + _ ≤ List.length _; simp))) ALeL.refl (c_oneB _) rfl ?_) | fail)
    all_goals clear h1 h2
    all_goals first
      | (refine congrArg (vint .i64) ?_; simp [*]; done)
theorem c_ralone (r : Reg) (u : Rule) (F1 : List Int) (i : Int) (a : Placed) (hF : F1.length ≤ 100000) (ht : u.times.length ≤ 100000) (hm : u.rooms.length ≤ 100000) :
    PCall Tryz.prog 57 [ag r.cells, ag u.row, .pv (encInts F1), vint .i64 i, ag a.row] (fun v => v = vint .i64 (alnB r u (pB (i ∈ F1)) a)) := by
  have h1 := c_rhasN F1 i hF
  have h2 := c_rroomed r a
  unfold alnB
  generalize pB (i ∈ F1) = fi at *
  by_cases ha : roomIn r a
  · obtain ⟨j, x, e1, hx, -, e2⟩ := room_at ha
    rw [pB_t ha] at h2
    have hP : pB (roomIn r a ∧ ¬ codeOf r a ∈ u.rooms) = !pB (x.code ∈ u.rooms) := by
      rw [e2]
      exact (pB_eq (by simp [ha])).symm
    rw [hP]
    have ea : a.row = [ei a.time.weeks, ei a.time.day, ei a.time.start, ei a.time.len, ei j] := by rw [← e1]; rfl
    rw [ea] at h2 ⊢
    refine acall_of tok mixed 62 rfl (fn := Tryz.f57) (c := Tryz.f57.body.getD .skip) (by kernel_rfl) (by kernel_rfl) (by kernel_rfl) rfl 0 rfl ?_
    repeat' (first | refine o1 ?_ | refine o2 ?_ | refine k1 ?_ | refine k2 ?_ | refine k3 ?_ | refine k4 ?_ | refine k6 ?_ | refine k7 ?_ | refine And.intro ?_ ?_ | (intro h; first | exact Bool.noConfusion h | exact nz _ h | exact nl h | (simp at h; done) | (simp at h; first | (exfalso; omega) | skip) | skip) | (change retOk _ _ _ _; refine ret_pure rfl trivial ?_) | (change vcFun _ _ _ _ _; refine call_eq rfl (by repeat' (first | trivial | refine And.intro ?_ ?_ | (show 0 + _ ≤ List.length _; simp))) ALeL.refl (h1) rfl ?_) | (change vcFun _ _ _ _ _; refine call_eq rfl (by repeat' (first | trivial | refine And.intro ?_ ?_ | (show 0 + _ ≤ List.length _; simp))) ALeL.refl (h2) rfl ?_) | fail)
    all_goals clear h1 h2
    all_goals try (refine congrArg (vint .i64) ?_; simp [*]; done)
    · refine loop_in (fun i : Nat => [(11, vint .i64 i)]) (fun _ => [some ⟨37, 14, false, .box (pvs r.cells)⟩, some ⟨58, 13, false, .box (pvs u.row)⟩, some ⟨72, 5, false, .box (pvs [ei a.time.weeks, ei a.time.day, ei a.time.start, ei a.time.len, ei j])⟩]) (fun i => i ≤ u.times.length ∧ ∀ j, j < i → ∀ t, u.times[j]? = some t → ¬ ovP t a.time) (fun i => u.times.length - i) 0 ⟨Nat.zero_le _, fun j hj => by omega⟩ ⟨?_, ?_⟩
      · exact back [0, 1, 2] rfl rfl ⟨rfl, rfl, rfl, trivial⟩ (by repeat' (first | exact trivial | exact rfl | refine And.intro ?_ ?_))
      intro i ⟨hi, hall⟩
      rcases Nat.lt_or_ge i u.times.length with hlt | hge
      · obtain ⟨t, htt⟩ := getE hlt
        have hov := c_roverlap t a.time
        repeat' (first | refine o1 ?_ | refine o2 ?_ | refine k1 ?_ | refine k2 ?_ | refine k3 ?_ | refine k4 ?_ | refine k6 ?_ | refine k7 ?_ | refine And.intro ?_ ?_ | refine o3 ?_ | refine o4 ?_ | (intro h; first | exact Bool.noConfusion h | exact nz _ h | exact nl h | (simp at h; done) | (simp at h; first | (exfalso; omega) | skip) | skip) | (change retOk _ _ _ _; refine ret_pure rfl trivial ?_) | exact (by kernel_rfl : drawOk _ _ = true) | refine eqv_len_map ?_ | refine eqv_wrap (by omega) (by omega) ?_ | refine ⟨_, _, (by first | rfl | assumption), at_map (by assumption), ?_⟩ | (change vcFunD _ _ _ _ _; refine callD_eq rfl (by repeat' (first | trivial | refine And.intro ?_ ?_ | (show 0 + _ ≤ List.length _; simp))) ALeL.refl (hov) rfl ?_) | fail)
        all_goals first
          | (refine congrArg (vint .i64) ?_; rw [pB_t ⟨t, List.mem_of_getElem? htt, by assumption⟩]; simp [*]; done)
          | exact ⟨i + 1, ⟨by omega, all_lt_succ hall fun y hy => by rw [htt] at hy; cases hy; assumption⟩, by omega, back [0, 1, 2] rfl rfl ⟨rfl, rfl, rfl, trivial⟩ (by repeat' (first | exact trivial | exact rfl | refine And.intro ?_ ?_))⟩
      · have hno : ¬ ∃ t ∈ u.times, ovP t a.time := fun ⟨t, h1, h2⟩ => by
          obtain ⟨j, hj⟩ := List.getElem?_of_mem h1
          exact hall j (by have := (List.getElem?_eq_some_iff.1 hj).1; omega) t hj h2
        repeat' (first | refine o1 ?_ | refine o2 ?_ | refine k1 ?_ | refine k2 ?_ | refine k3 ?_ | refine k7 ?_ | refine k8 ?_ | refine And.intro ?_ ?_ | (intro h; first | exact Bool.noConfusion h | exact nz _ h | exact nl h | (simp at h; done) | (simp at h; first | (exfalso; omega) | skip) | skip) | (change retOk _ _ _ _; refine ret_pure rfl trivial ?_) | refine eqv_len_map ?_ | fail)
        refine congrArg (vint .i64) ?_
        rw [pB_f hno]
        simp [*]
    · refine loop_in (fun i : Nat => [(12, vint .i64 i)]) (fun _ => [some ⟨37, 14, false, .box (pvs r.cells)⟩, some ⟨58, 13, false, .box (pvs u.row)⟩, some ⟨72, 5, false, .box (pvs [ei a.time.weeks, ei a.time.day, ei a.time.start, ei a.time.len, ei j])⟩]) (fun i => i ≤ u.rooms.length ∧ ∀ j, j < i → ∀ c, u.rooms[j]? = some c → ¬ c = x.code) (fun i => u.rooms.length - i) 0 ⟨Nat.zero_le _, fun j hj => by omega⟩ ⟨?_, ?_⟩
      · exact back [0, 1, 2] rfl rfl ⟨rfl, rfl, rfl, trivial⟩ (by repeat' (first | exact trivial | exact rfl | refine And.intro ?_ ?_))
      intro i ⟨hi, hall⟩
      rcases Nat.lt_or_ge i u.rooms.length with hlt | hge
      · obtain ⟨c, hc⟩ := getE hlt
        repeat' (first | refine o1 ?_ | refine o2 ?_ | refine k1 ?_ | refine k2 ?_ | refine k3 ?_ | refine k4 ?_ | refine k6 ?_ | refine k7 ?_ | refine And.intro ?_ ?_ | refine o3 ?_ | refine o4 ?_ | (intro h; first | exact Bool.noConfusion h | exact nz _ h | exact nl h | (simp at h; done) | (simp at h; first | (exfalso; omega) | skip) | skip) | (change retOk _ _ _ _; refine ret_pure rfl trivial ?_) | exact (by kernel_rfl : drawOk _ _ = true) | refine eqv_len_map ?_ | refine eqv_wrap (by omega) (by omega) ?_ | refine ⟨_, _, (by first | rfl | assumption), at_map (by assumption), ?_⟩ | fail)
        all_goals first
          | (refine congrArg (vint .i64) ?_; rw [pB_t (show x.code ∈ u.rooms from (sEq_iff.1 (by assumption) : c = x.code) ▸ List.mem_of_getElem? hc)]; simp [*]; done)
          | exact ⟨i + 1, ⟨by omega, all_lt_succ hall fun y hy => by rw [hc] at hy; cases hy; exact sEq_f.1 (by assumption)⟩, by omega, back [0, 1, 2] rfl rfl ⟨rfl, rfl, rfl, trivial⟩ (by repeat' (first | exact trivial | exact rfl | refine And.intro ?_ ?_))⟩
      · have hno : ¬ x.code ∈ u.rooms := fun h1 => by
          obtain ⟨j, hj⟩ := List.getElem?_of_mem h1
          exact hall j (by have := (List.getElem?_eq_some_iff.1 hj).1; omega) _ hj rfl
        repeat' (first | refine o1 ?_ | refine o2 ?_ | refine k1 ?_ | refine k2 ?_ | refine k3 ?_ | refine k7 ?_ | refine k8 ?_ | refine And.intro ?_ ?_ | (intro h; first | exact Bool.noConfusion h | exact nz _ h | exact nl h | (simp at h; done) | (simp at h; first | (exfalso; omega) | skip) | skip) | (change retOk _ _ _ _; refine ret_pure rfl trivial ?_) | refine eqv_len_map ?_ | fail)
        refine congrArg (vint .i64) ?_
        rw [pB_f hno]
        simp [*]
  · rw [pB_f ha] at h2
    rw [pB_f (show ¬ (roomIn r a ∧ ¬ codeOf r a ∈ u.rooms) from fun h => ha h.1)]
    refine acall_of tok mixed 62 rfl (fn := Tryz.f57) (c := Tryz.f57.body.getD .skip) (by kernel_rfl) (by kernel_rfl) (by kernel_rfl) rfl 0 rfl ?_
    repeat' (first | refine o1 ?_ | refine o2 ?_ | refine k1 ?_ | refine k2 ?_ | refine k3 ?_ | refine k4 ?_ | refine k6 ?_ | refine k7 ?_ | refine And.intro ?_ ?_ | (intro h; first | exact Bool.noConfusion h | exact nz _ h | exact nl h | (simp at h; done) | (simp at h; first | (exfalso; omega) | skip) | skip) | (change retOk _ _ _ _; refine ret_pure rfl trivial ?_) | (change vcFun _ _ _ _ _; refine call_eq rfl (by repeat' (first | trivial | refine And.intro ?_ ?_ | (show 0 + _ ≤ List.length _; simp))) ALeL.refl (h1) rfl ?_) | (change vcFun _ _ _ _ _; refine call_eq rfl (by repeat' (first | trivial | refine And.intro ?_ ?_ | (show 0 + _ ≤ List.length _; simp))) ALeL.refl (h2) rfl ?_) | fail)
    all_goals clear h1 h2
    all_goals try (refine congrArg (vint .i64) ?_; simp [*]; done)
    · refine loop_in (fun i : Nat => [(11, vint .i64 i)]) (fun _ => [some ⟨37, 14, false, .box (pvs r.cells)⟩, some ⟨58, 13, false, .box (pvs u.row)⟩, some ⟨72, 5, false, .box (pvs a.row)⟩]) (fun i => i ≤ u.times.length ∧ ∀ j, j < i → ∀ t, u.times[j]? = some t → ¬ ovP t a.time) (fun i => u.times.length - i) 0 ⟨Nat.zero_le _, fun j hj => by omega⟩ ⟨?_, ?_⟩
      · exact back [0, 1, 2] rfl rfl ⟨rfl, rfl, rfl, trivial⟩ (by repeat' (first | exact trivial | exact rfl | refine And.intro ?_ ?_))
      intro i ⟨hi, hall⟩
      rcases Nat.lt_or_ge i u.times.length with hlt | hge
      · obtain ⟨t, htt⟩ := getE hlt
        have hov := c_roverlap t a.time
        repeat' (first | refine o1 ?_ | refine o2 ?_ | refine k1 ?_ | refine k2 ?_ | refine k3 ?_ | refine k4 ?_ | refine k6 ?_ | refine k7 ?_ | refine And.intro ?_ ?_ | refine o3 ?_ | refine o4 ?_ | (intro h; first | exact Bool.noConfusion h | exact nz _ h | exact nl h | (simp at h; done) | (simp at h; first | (exfalso; omega) | skip) | skip) | (change retOk _ _ _ _; refine ret_pure rfl trivial ?_) | exact (by kernel_rfl : drawOk _ _ = true) | refine eqv_len_map ?_ | refine eqv_wrap (by omega) (by omega) ?_ | refine ⟨_, _, (by first | rfl | assumption), at_map (by assumption), ?_⟩ | (change vcFunD _ _ _ _ _; refine callD_eq rfl (by repeat' (first | trivial | refine And.intro ?_ ?_ | (show 0 + _ ≤ List.length _; simp))) ALeL.refl (hov) rfl ?_) | fail)
        all_goals first
          | (refine congrArg (vint .i64) ?_; rw [pB_t ⟨t, List.mem_of_getElem? htt, by assumption⟩]; simp [*]; done)
          | exact ⟨i + 1, ⟨by omega, all_lt_succ hall fun y hy => by rw [htt] at hy; cases hy; assumption⟩, by omega, back [0, 1, 2] rfl rfl ⟨rfl, rfl, rfl, trivial⟩ (by repeat' (first | exact trivial | exact rfl | refine And.intro ?_ ?_))⟩
      · have hno : ¬ ∃ t ∈ u.times, ovP t a.time := fun ⟨t, h1, h2⟩ => by
          obtain ⟨j, hj⟩ := List.getElem?_of_mem h1
          exact hall j (by have := (List.getElem?_eq_some_iff.1 hj).1; omega) t hj h2
        repeat' (first | refine o1 ?_ | refine o2 ?_ | refine k1 ?_ | refine k2 ?_ | refine k3 ?_ | refine k7 ?_ | refine k8 ?_ | refine And.intro ?_ ?_ | (intro h; first | exact Bool.noConfusion h | exact nz _ h | exact nl h | (simp at h; done) | (simp at h; first | (exfalso; omega) | skip) | skip) | (change retOk _ _ _ _; refine ret_pure rfl trivial ?_) | refine eqv_len_map ?_ | fail)
        refine congrArg (vint .i64) ?_
        rw [pB_f hno]
        simp [*]
end Go.Proofs.YtmaambipopgdkaaGreat.Cw

/-
  How often a placement violates a rule: Violations.
-/
namespace Go.Proofs.YtmaambipopgdkaaGreat.Cw
open Go Go.Cw Go.Proofs
set_option linter.unusedVariables false
set_option maxRecDepth 100000
set_option maxHeartbeats 8000000
def isB (S : List Bool) (k : Nat) : Bool := match S[k]? with
  | some b => b
  | none => false
noncomputable def alnN (r : Reg) (u : Rule) (F : List Bool) (p : List Placed) (i : Nat) : Int := match p[i]? with
  | some a => alnB r u (isB F i) a
  | none => 0
noncomputable def togN (r : Reg) (u : Rule) (W : Travel) (F S : List Bool) (p : List Placed) (k i : Nat) : Int := match p[k]?, p[i]? with
  | some b, some a => togB r u W (isB F k) (isB F i) (isB S k) (isB S i) b a
  | _, _ => 0
theorem alnN_le {r : Reg} {u : Rule} {F : List Bool} {p : List Placed} (i : Nat) : 0 ≤ alnN r u F p i ∧ alnN r u F p i ≤ 1 := by
  unfold alnN alnB
  (repeat' split) <;> omega
theorem togN_le {r : Reg} {u : Rule} {W : Travel} {F S : List Bool} {p : List Placed} {i : Nat} (k : Nat) : 0 ≤ togN r u W F S p k i ∧ togN r u W F S p k i ≤ 2 := by
  unfold togN togB
  (repeat' split) <;> omega
noncomputable def oneN (r : Reg) (u : Rule) (W : Travel) (F S : List Bool) (p : List Placed) (i : Nat) : Int := alnN r u F p i + sumI (fun k => togN r u W F S p k i) i
noncomputable def allN (r : Reg) (u : Rule) (W : Travel) (F S : List Bool) (p : List Placed) : Int := sumI (oneN r u W F S p) p.length
noncomputable def vioN (r : Reg) (u : Rule) (W : Travel) (F S : List Bool) (p : List Placed) : Int := if u.kind = 7 then beyN F p u.n else allN r u W F S p
theorem isB_at {S : List Bool} {k : Nat} (h : k < S.length) : S[k]? = some (isB S k) := by
  obtain ⟨b, hb⟩ := getE h
  unfold isB; rw [hb]
theorem c_viol0 (r : Reg) (u : Rule) (W : Travel) (F S : List Bool) (p : List Placed) (hW : WayL W) (hF : F.length = r.classes.length) (hS : u.kind = 6 → S.length = r.classes.length) (hr : r.classes.length ≤ 24) (hn : 0 ≤ u.n ∧ u.n ≤ 24) (ht : u.times.length ≤ 100000) (hm : u.rooms.length ≤ 100000)
    (h1 : PCall Tryz.prog 52 [ag r.cells, ag u.row] (fun a => a = .tup [.pv (.ia (judgeC r u F S W)), vint .i64 0])) :
    PCall Tryz.prog 17 [ag r.cells, ag u.row, .pv (.sl 5 (p.map Placed.row))] (fun v => v = .tup [vint .i64 (if p.length = r.classes.length then vioN r u W F S p else 0), vint .i64 (if p.length = r.classes.length then 0 else 17)]) := by
  by_cases hl : p.length = r.classes.length
  · rw [if_pos hl, if_pos hl]
    have h2 := c_beyond r u F S W p (by omega) (by omega) hn
    by_cases h7 : u.kind = 7
    · have e : vioN r u W F S p = beyN F p u.n := if_pos h7
      rw [e]
      generalize beyN F p u.n = Z at *
      refine acall_of tok mixed 69 rfl (fn := Tryz.f17) (c := Tryz.f17.body.getD .skip) (by kernel_rfl) (by kernel_rfl) (by kernel_rfl) rfl 0 rfl ?_
      repeat' (first | ((change vcFun _ _ _ _ _; refine call_frz rfl (by repeat' (first | trivial | refine And.intro ?_ ?_ | (show 0 + _ ≤ List.length _; simp))) ALeL.refl h1 ?_; rintro _ rfl)) | refine o1 ?_ | refine o2 ?_ | refine k1 ?_ | refine k2 ?_ | refine k3 ?_ | refine k4 ?_ | refine k7 ?_ | refine And.intro ?_ ?_ | (intro h; first | exact Bool.noConfusion h | exact nz _ h | exact nl h | (simp at h; done) | (simp at h; first | (exfalso; omega) | skip) | skip) | (change retOk _ _ _ _; refine ret_pure rfl trivial ?_) | refine eqv_len_map ?_ | (change vcFun _ _ _ _ _; refine call_eq rfl (by repeat' (first | trivial | refine And.intro ?_ ?_ | (show 0 + _ ≤ List.length _; simp))) ALeL.refl (h2) rfl ?_) | fail)
      rfl
    · have e : vioN r u W F S p = allN r u W F S p := if_neg h7
      rw [e]
      have hB : ∀ i, i < 24 → 0 ≤ oneN r u W F S p i ∧ oneN r u W F S p i ≤ 100 := fun i hi => by
        have a1 := alnN_le (r := r) (u := u) (F := F) (p := p) i
        have a2 := sumI_le (togN_le (r := r) (u := u) (W := W) (F := F) (S := S) (p := p) (i := i)) i
        unfold oneN; omega
      refine acall_of tok mixed 69 rfl (fn := Tryz.f17) (c := Tryz.f17.body.getD .skip) (by kernel_rfl) (by kernel_rfl) (by kernel_rfl) rfl 0 rfl ?_
      repeat' (first | ((change vcFun _ _ _ _ _; refine call_frz rfl (by repeat' (first | trivial | refine And.intro ?_ ?_ | (show 0 + _ ≤ List.length _; simp))) ALeL.refl h1 ?_; rintro _ rfl)) | refine o1 ?_ | refine o2 ?_ | refine k1 ?_ | refine k2 ?_ | refine k3 ?_ | refine k4 ?_ | refine k6 ?_ | refine And.intro ?_ ?_ | (intro h; first | exact Bool.noConfusion h | exact nz _ h | exact nl h | (simp at h; done) | (simp at h; first | (exfalso; omega) | skip) | skip) | refine eqv_len_map ?_ | fail)
      refine loop_in (fun i : Nat => [(40, vint .i64 i), (10, vint .i64 (sumI (oneN r u W F S p) i))]) (fun _ => [some ⟨37, 14, false, .box (pvs r.cells)⟩, some ⟨58, 13, false, .box (pvs u.row)⟩]) (fun i => i ≤ p.length ∧ 0 ≤ sumI (oneN r u W F S p) i ∧ sumI (oneN r u W F S p) i ≤ i * 100) (fun i => p.length - i) 0 ⟨Nat.zero_le _, by simp [sumI], by simp [sumI]⟩ ⟨?_, ?_⟩
      · exact back [0, 1] rfl rfl ⟨rfl, rfl, trivial⟩ (by repeat' (first | exact trivial | exact rfl | refine And.intro ?_ ?_))
      intro i ⟨hi, hlo, hhi⟩
      rcases Nat.lt_or_ge i p.length with hlt | hge
      · obtain ⟨a, ha⟩ := getE hlt
        have hal := c_alone r u F S W i (isB F i) a (isB_at (by omega)) ht hm
        have hA1 := alnN_le (r := r) (u := u) (F := F) (p := p) i
        have hAe : alnB r u (isB F i) a = alnN r u F p i := by unfold alnN; rw [ha]
        rw [hAe] at hal
        have hTe := accI_eq (s := sumI (oneN r u W F S p) i + alnN r u F p i) (f := fun k => togN r u W F S p k i)
        have hTb := sumI_le (togN_le (r := r) (u := u) (W := W) (F := F) (S := S) (p := p) (i := i))
        have hOe : sumI (oneN r u W F S p) (i + 1) = accI (sumI (oneN r u W F S p) i + alnN r u F p i) (fun k => togN r u W F S p k i) i := by
          rw [hTe]; show sumI (oneN r u W F S p) i + oneN r u W F S p i = _; unfold oneN; omega
        have hOb := hB i (by omega)
        have hOs : sumI (oneN r u W F S p) (i + 1) = sumI (oneN r u W F S p) i + oneN r u W F S p i := rfl
        repeat' (first | (refine idx_sl (k := i) (at_map ha) rfl ?_) | refine o1 ?_ | refine o2 ?_ | refine k1 ?_ | refine k2 ?_ | refine k3 ?_ | refine k4 ?_ | refine k6 ?_ | refine And.intro ?_ ?_ | (intro h; first | exact Bool.noConfusion h | exact nz _ h | exact nl h | (simp at h; done) | (simp at h; first | (exfalso; omega) | skip) | skip) | exact (by kernel_rfl : drawOk _ _ = true) | refine eqv_wrap (by omega) (by omega) ?_ | (change vcFun _ _ _ _ _; refine call_eq rfl (by repeat' (first | trivial | refine And.intro ?_ ?_ | (show 0 + _ ≤ List.length _; simp))) ALeL.refl (hal) rfl ?_) | fail)
        refine loop_in (fun k : Nat => [(52, vint .i64 k), (10, vint .i64 (accI (sumI (oneN r u W F S p) i + alnN r u F p i) (fun k => togN r u W F S p k i) k))]) (fun _ => [some ⟨37, 14, false, .box (pvs r.cells)⟩, some ⟨58, 13, false, .box (pvs u.row)⟩, some ⟨72, 5, false, .box (pvs a.row)⟩]) (fun k => k ≤ i) (fun k => i - k) 0 (Nat.zero_le _) ⟨?_, ?_⟩
        · exact back [0, 1, 2] rfl rfl ⟨rfl, rfl, rfl, trivial⟩ (by repeat' (first | exact trivial | exact rfl | refine And.intro ?_ ?_))
        intro k hk
        have hTk := hTe k
        have hTk2 := hTb k
        rcases Nat.lt_or_ge k i with hkl | hkg
        · obtain ⟨b, hb⟩ := getE (show k < p.length by omega)
          have hto := c_together r u F S W k i (isB F k) (isB F i) (isB S k) (isB S i) b a hW (isB_at (by omega)) (isB_at (by omega)) (fun h => isB_at (by have := hS h; omega)) (fun h => isB_at (by have := hS h; omega))
          have hte : togB r u W (isB F k) (isB F i) (isB S k) (isB S i) b a = togN r u W F S p k i := by unfold togN; rw [hb, ha]
          rw [hte] at hto
          have hT1 := togN_le (r := r) (u := u) (W := W) (F := F) (S := S) (p := p) (i := i) k
          repeat' (first | (refine idx_sl (k := k) (at_map hb) rfl ?_) | refine o1 ?_ | refine o2 ?_ | refine k1 ?_ | refine k2 ?_ | refine k3 ?_ | refine k4 ?_ | refine k6 ?_ | refine And.intro ?_ ?_ | refine o3 ?_ | refine o4 ?_ | (intro h; first | exact Bool.noConfusion h | exact nz _ h | exact nl h | (simp at h; done) | (simp at h; first | (exfalso; omega) | skip) | skip) | exact (by kernel_rfl : drawOk _ _ = true) | refine eqv_wrap (by omega) (by omega) ?_ | (change vcFunD _ _ _ _ _; refine callD_eq rfl (by repeat' (first | trivial | refine And.intro ?_ ?_ | (show 0 + _ ≤ List.length _; simp))) ALeL.refl (hto) rfl ?_) | fail)
          exact ⟨k + 1, by omega, by omega, back [0, 1, 2] rfl rfl ⟨rfl, rfl, rfl, trivial⟩ (by repeat' (first | exact trivial | exact rfl | refine And.intro ?_ ?_))⟩
        · obtain rfl : k = i := by omega
          rw [← hOe]
          repeat' (first | refine o1 ?_ | refine o2 ?_ | refine k1 ?_ | refine k2 ?_ | refine k3 ?_ | refine k8 ?_ | refine And.intro ?_ ?_ | (intro h; first | exact Bool.noConfusion h | exact nz _ h | exact nl h | (simp at h; done) | (simp at h; first | (exfalso; omega) | skip) | skip) | refine eqv_wrap (by omega) (by omega) ?_ | fail)
          exact ⟨k + 1, ⟨by omega, by omega, by omega⟩, by omega, back [0, 1] rfl rfl ⟨rfl, rfl, trivial⟩ (by repeat' (first | exact trivial | exact rfl | refine And.intro ?_ ?_))⟩
      · obtain rfl : i = p.length := by omega
        repeat' (first | refine o1 ?_ | refine o2 ?_ | refine k1 ?_ | refine k2 ?_ | refine k3 ?_ | refine k7 ?_ | refine k8 ?_ | refine And.intro ?_ ?_ | (intro h; first | exact Bool.noConfusion h | exact nz _ h | exact nl h | (simp at h; done) | (simp at h; first | (exfalso; omega) | skip) | skip) | (change retOk _ _ _ _; refine ret_pure rfl trivial ?_) | fail)
        rfl
  · rw [if_neg hl, if_neg hl]
    refine acall_of tok mixed 69 rfl (fn := Tryz.f17) (c := Tryz.f17.body.getD .skip) (by kernel_rfl) (by kernel_rfl) (by kernel_rfl) rfl 0 rfl ?_
    repeat' (first | ((change vcFun _ _ _ _ _; refine call_frz rfl (by repeat' (first | trivial | refine And.intro ?_ ?_ | (show 0 + _ ≤ List.length _; simp))) ALeL.refl h1 ?_; rintro _ rfl)) | refine o1 ?_ | refine o2 ?_ | refine k1 ?_ | refine k2 ?_ | refine k3 ?_ | refine k4 ?_ | refine k7 ?_ | refine And.intro ?_ ?_ | (intro h; first | exact Bool.noConfusion h | exact nz _ h | exact nl h | (simp at h; done) | (simp at h; first | (exfalso; omega) | skip) | skip) | (change retOk _ _ _ _; refine ret_pure rfl trivial ?_) | refine eqv_len_map ?_ | fail)
    rfl
end Go.Proofs.YtmaambipopgdkaaGreat.Cw

/-
  Plain: sums in another order; classes as indexes and as marks.
-/
namespace Go.Proofs.YtmaambipopgdkaaGreat.Cw
open Go Go.Cw Go.Proofs
set_option linter.unusedVariables false

theorem sumI_congr {f g : Nat → Int} : ∀ {m : Nat}, (∀ i, i < m → f i = g i) → sumI f m = sumI g m
  | 0, _ => rfl
  | m + 1, h => by simp only [sumI]; rw [sumI_congr fun i hi => h i (by omega), h m (by omega)]
theorem sumI_add {f g : Nat → Int} : ∀ {m : Nat}, sumI (fun i => f i + g i) m = sumI f m + sumI g m
  | 0 => rfl
  | m + 1 => by simp only [sumI]; rw [sumI_add]; omega
theorem sumI_zero {f : Nat → Int} : ∀ {m : Nat}, (∀ i, i < m → f i = 0) → sumI f m = 0
  | 0, _ => rfl
  | m + 1, h => by simp only [sumI]; rw [sumI_zero fun i hi => h i (by omega), h m (by omega)]; rfl
theorem sumI_swap {f : Nat → Nat → Int} {n : Nat} : ∀ {m : Nat}, sumI (fun i => sumI (fun k => f i k) n) m = sumI (fun k => sumI (fun i => f i k) m) n
  | 0 => by
    show (0 : Int) = _
    rw [sumI_zero]; intro i _; rfl
  | m + 1 => by
    show sumI (fun i => sumI (fun k => f i k) n) m + sumI (fun k => f m k) n = _
    rw [sumI_swap (m := m), ← sumI_add]; rfl
/-- A sum that begins later. -/
def fromI (f : Nat → Int) (a : Nat) (n : Nat) : Int := sumI (fun k => if a ≤ k then f k else 0) n
theorem from_lo {f : Nat → Int} {a n : Nat} (h : n ≤ a) : fromI f a n = 0 := sumI_zero fun i hi => if_neg (by omega)
theorem from_next {f : Nat → Int} {a n : Nat} (h : a ≤ n) : fromI f a (n + 1) = fromI f a n + f n := by
  show fromI f a n + (if a ≤ n then f n else 0) = _
  rw [if_pos h]
theorem upto_sum {f : Nat → Int} {n m : Nat} (h : m ≤ n) : sumI (fun k => if k < m then f k else 0) n = sumI f m := by
  induction n with
  | zero => obtain rfl : m = 0 := by omega
            rfl
  | succ n ih =>
    rcases Nat.lt_or_ge n m with h1 | h1
    · obtain rfl : m = n + 1 := by omega
      exact sumI_congr fun i hi => if_pos hi
    · show sumI (fun k => if k < m then f k else 0) n + (if n < m then f n else 0) = _
      rw [ih h1, if_neg (by omega)]; omega
/-- Pairs by the smaller and by the larger. -/
theorem pairs_swap {f : Nat → Nat → Int} {n : Nat} : sumI (fun i => fromI (fun k => f i k) (i + 1) n) n = sumI (fun k => sumI (fun i => f i k) k) n := by
  unfold fromI
  rw [sumI_swap]
  refine sumI_congr fun k hk => ?_
  exact upto_sum (f := fun i => f i k) (m := k) (n := n) (by omega)
end Go.Proofs.YtmaambipopgdkaaGreat.Cw

/-
  Plain: classes as indexes and as marks; the sums of the reference.
-/
namespace Go.Proofs.YtmaambipopgdkaaGreat.Cw
open Go Go.Cw Go.Proofs
set_option linter.unusedVariables false

/-- The sum over the first m numbers of a list. -/
noncomputable def lsF (h : Int → Int) (L : List Int) (j : Nat) : Int := match L[j]? with
  | some y => h y
  | none => 0
noncomputable def lsI (h : Int → Int) (L : List Int) (m : Nat) : Int := sumI (lsF h L) m
theorem lsF_at {h : Int → Int} {L : List Int} {j : Nat} {y : Int} (e : L[j]? = some y) : lsF h L j = h y := by unfold lsF; rw [e]
theorem lsI_snoc {h : Int → Int} {L : List Int} {y : Int} : lsI h (L ++ [y]) (L ++ [y]).length = lsI h L L.length + h y := by
  rw [List.length_append]
  show sumI (lsF h (L ++ [y])) L.length + lsF h (L ++ [y]) L.length = _
  rw [lsF_at (y := y) (by simp), sumI_congr fun j hj => show lsF h (L ++ [y]) j = lsF h L j by unfold lsF; rw [List.getElem?_append_left hj]]
  rfl
theorem isB_mem {r : Reg} {s : Sel} {i : Nat} {c : Class} (h : r.classes[i]? = some c) : isB (memB r s) i = hasS r c s := by
  unfold isB memB
  rw [List.getElem?_map, h]; rfl
theorem isB_out {S : List Bool} {i : Nat} (h : S.length ≤ i) : isB S i = false := by unfold isB; rw [List.getElem?_eq_none h]
theorem cls_step {r : Reg} {s : Sel} {n : Nat} (hn : n < r.classes.length) : clsV r s (n + 1) = if isB (memB r s) n = true then clsV r s n ++ [(n : Int)] else clsV r s n := by
  obtain ⟨c, hc⟩ := getE hn
  rw [isB_mem hc]
  unfold clsV
  by_cases h : hasS r c s = true
  · rw [if_pos h]; exact upto_some hc (show selF r s n c = some (n : Int) from if_pos h)
  · rw [if_neg h]; exact upto_none hc (show selF r s n c = none from if_neg h)
theorem cls_sum {r : Reg} {s : Sel} {h : Int → Int} : ∀ n, n ≤ r.classes.length → lsI h (clsV r s n) (clsV r s n).length = sumI (fun i => if isB (memB r s) i = true then h i else 0) n
  | 0, _ => rfl
  | n + 1, hn => by
    have ih := cls_sum (r := r) (s := s) (h := h) n (by omega)
    rw [cls_step (by omega)]
    show _ = sumI (fun i => if isB (memB r s) i = true then h i else 0) n + if isB (memB r s) n = true then h n else 0
    by_cases hb : isB (memB r s) n = true
    · rw [if_pos hb, if_pos hb, lsI_snoc, ih]
    · rw [if_neg hb, if_neg hb, ih]; omega
theorem cls_mem {r : Reg} {s : Sel} {y : Int} : ∀ n, n ≤ r.classes.length → (y ∈ clsV r s n ↔ ∃ i : Nat, i < n ∧ y = (i : Int) ∧ isB (memB r s) i = true)
  | 0, _ => ⟨fun h => absurd h (by show ¬ y ∈ []; simp), fun ⟨i, h, _⟩ => by omega⟩
  | n + 1, hn => by
    have ih := cls_mem (r := r) (s := s) (y := y) n (by omega)
    rw [cls_step (by omega)]
    by_cases hb : isB (memB r s) n = true
    · rw [if_pos hb, List.mem_append, ih, List.mem_singleton]
      constructor
      · rintro (⟨i, h1, h2, h3⟩ | h)
        · exact ⟨i, by omega, h2, h3⟩
        · exact ⟨n, by omega, h, hb⟩
      · rintro ⟨i, h1, h2, h3⟩
        by_cases e : i = n
        · subst e; exact .inr h2
        · exact .inl ⟨i, by omega, h2, h3⟩
    · rw [if_neg hb, ih]
      constructor
      · rintro ⟨i, h1, h2, h3⟩; exact ⟨i, by omega, h2, h3⟩
      · rintro ⟨i, h1, h2, h3⟩
        by_cases e : i = n
        · subst e; exact absurd h3 hb
        · exact ⟨i, by omega, h2, h3⟩
theorem clsV_len {r : Reg} {s : Sel} {n : Nat} : n ≤ r.classes.length → (clsV r s n).length ≤ n := by
  induction n with
  | zero => intro _; exact Nat.le_refl _
  | succ n ih =>
    intro hn
    have := ih (by omega)
    rw [cls_step (by omega)]
    split
    · rw [List.length_append, List.length_singleton]; omega
    · omega
/-- The numbers of the members, and their marks. -/
structure ClsOk (n : Nat) (L : List Int) (B : List Bool) : Prop where
  len : L.length ≤ n
  blen : B.length = n
  mem : ∀ i : Nat, pB ((i : Int) ∈ L) = isB B i
  at_ : ∀ y, y ∈ L → ∃ i : Nat, i < n ∧ y = (i : Int) ∧ isB B i = true
  sum : ∀ h : Int → Int, lsI h L L.length = sumI (fun i => if isB B i = true then h i else 0) n
theorem cls_ok {r : Reg} {s : Sel} (hr : regE r = 0) (hs : selE r s = 0) : ClsOk r.classes.length (clsL r s) (memB r s) := by
  have e : clsL r s = clsV r s r.classes.length := by unfold clsL clsE0; rw [if_pos hr, if_pos hs]
  have hb : (memB r s).length = r.classes.length := List.length_map _
  rw [e]
  refine ⟨clsV_len (Nat.le_refl _), hb, fun i => ?_, fun y hy => (cls_mem _ (Nat.le_refl _)).1 hy, fun h => cls_sum _ (Nat.le_refl _)⟩
  cases hi : isB (memB r s) i
  · exact pB_f fun h => by
      obtain ⟨j, _, h2, h3⟩ := (cls_mem _ (Nat.le_refl _)).1 h
      obtain rfl : i = j := by omega
      rw [hi] at h3; cases h3
  · refine pB_t ((cls_mem _ (Nat.le_refl _)).2 ⟨i, ?_, rfl, hi⟩)
    rcases Nat.lt_or_ge i r.classes.length with h | h
    · exact h
    · rw [isB_out (by omega)] at hi; cases hi
/-- What a class at a place of the list adds to a day. -/
noncomputable def onX (p : List Placed) (w : Nat) (d : Int) (y : Int) : Int := match p[y.toNat]? with
  | some a => if pB (onP a w d) then 1 else 0
  | none => 0
theorem onX_le {p : List Placed} {w : Nat} {d y : Int} : 0 ≤ onX p w d y ∧ onX p w d y ≤ 1 := by
  unfold onX
  (repeat' split) <;> omega
theorem lsF_le {p : List Placed} {w : Nat} {d : Int} {L : List Int} (j : Nat) : 0 ≤ lsF (onX p w d) L j ∧ lsF (onX p w d) L j ≤ 1 := by
  unfold lsF
  split
  · exact onX_le
  · omega
theorem day_sum {n : Nat} {L : List Int} {F : List Bool} {p : List Placed} {w : Nat} {d : Int} (h : ClsOk n L F) (hp : p.length = n) : lsI (onX p w d) L L.length = dayN F p w d := by
  rw [h.sum]
  unfold dayN
  rw [hp]
  refine sumI_congr fun i hi => ?_
  obtain ⟨a, ha⟩ := getE (l := p) (i := i) (by omega)
  have hf : F[i]? = some (isB F i) := isB_at (by rw [h.blen]; exact hi)
  cases hb : isB F i
  · rw [onN_no (hf.trans (congrArg some hb))]; rfl
  · rw [onN_yes (hf.trans (congrArg some hb)) ha]
    unfold onX
    rw [Int.toNat_natCast, ha]; rfl
/-- What the reference adds up. -/
noncomputable def refN (r : Reg) (u : Rule) (W : Travel) (F S : List Bool) (p : List Placed) (i : Nat) : Int := alnN r u F p i + fromI (fun k => togN r u W F S p i k) (i + 1) p.length
theorem ref_sum {r : Reg} {u : Rule} {W : Travel} {F S : List Bool} {p : List Placed} : sumI (refN r u W F S p) p.length = allN r u W F S p := by
  show sumI (fun i => alnN r u F p i + fromI (fun k => togN r u W F S p i k) (i + 1) p.length) p.length = sumI (fun i => alnN r u F p i + sumI (fun k => togN r u W F S p k i) i) p.length
  rw [sumI_add, sumI_add, pairs_swap]
theorem aln_zero {r : Reg} {u : Rule} {F : List Bool} {p : List Placed} {i : Nat} (h : u.kind = 7) : alnN r u F p i = 0 := by
  unfold alnN alnB
  (repeat' split) <;> first | rfl | omega
theorem tog_zero {r : Reg} {u : Rule} {W : Travel} {F S : List Bool} {p : List Placed} {k i : Nat} (h : u.kind = 7) : togN r u W F S p k i = 0 := by
  have hp : ∀ a b, pB (pairP2 r u W a b) = false := fun a b => pB_f fun hq => by unfold pairP2 at hq; omega
  unfold togN
  split
  · rw [togB_pair (by omega), hp]; simp
  · rfl
theorem ref_zero {r : Reg} {u : Rule} {W : Travel} {F S : List Bool} {p : List Placed} (h : u.kind = 7) {m : Nat} : sumI (refN r u W F S p) m = 0 := sumI_zero fun i _ => by
  unfold refN fromI
  rw [aln_zero h, sumI_zero fun k _ => by dsimp only; rw [tog_zero h]; exact ite_self _]; rfl
/-- Ways matter for travel alone. -/
theorem togN_W {r : Reg} {u : Rule} {W V : Travel} {F S : List Bool} {p : List Placed} {k i : Nat} (h : u.kind ≠ 12) : togN r u W F S p k i = togN r u V F S p k i := by
  have hp : ∀ a b, pB (pairP2 r u W a b) = pB (pairP2 r u V a b) := fun a b => by
    have e : pairP2 r u W a b ↔ pairP2 r u V a b := by unfold pairP2; simp only [h, false_and]
    cases hb : pB (pairP2 r u V a b)
    · exact pB_f fun hq => by rw [pB_t (e.1 hq)] at hb; cases hb
    · exact pB_t (e.2 (Classical.byContradiction fun hq => by rw [pB_f hq] at hb; cases hb))
  unfold togN togB
  simp only [hp]
theorem vioN_W {r : Reg} {u : Rule} {W V : Travel} {F S : List Bool} {p : List Placed} (h : u.kind ≠ 12) : vioN r u W F S p = vioN r u V F S p := by
  unfold vioN allN
  split
  · rfl
  · refine sumI_congr fun i _ => ?_
    unfold oneN
    rw [sumI_congr fun k _ => togN_W h]
end Go.Proofs.YtmaambipopgdkaaGreat.Cw

/-
  How often a placement violates a rule, by the reference.
-/
namespace Go.Proofs.YtmaambipopgdkaaGreat.Cw
open Go Go.Cw Go.Proofs
set_option linter.unusedVariables false
set_option maxRecDepth 100000
set_option maxHeartbeats 8000000
/-- What the reference's Lists hands back fits to marks. -/
structure ListOk (r : Reg) (u : Rule) (X Y : List Int) (F S : List Bool) : Prop where
  first : ClsOk r.classes.length X F
  ylen : Y.length ≤ 100000
  second : u.kind = 6 → ∀ i : Nat, pB ((i : Int) ∈ Y) = isB S i
theorem both_tog {r : Reg} {u : Rule} {X Y : List Int} {W : Travel} {F S : List Bool} {p : List Placed} {i k : Nat} {a b : Placed} (h : ListOk r u X Y F S) (ha : p[i]? = some a) (hb : p[k]? = some b) :
    togB r u W (pB ((i : Int) ∈ X)) (pB ((k : Int) ∈ X)) (pB ((i : Int) ∈ Y)) (pB ((k : Int) ∈ Y)) a b = togN r u W F S p i k := by
  unfold togN
  rw [ha, hb]
  dsimp only
  rw [h.first.mem, h.first.mem]
  by_cases h6 : u.kind = 6
  · rw [h.second h6, h.second h6]
  · rw [togB_pair h6, togB_pair h6]
theorem one_aln {r : Reg} {u : Rule} {X Y : List Int} {F S : List Bool} {p : List Placed} {i : Nat} {a : Placed} (h : ListOk r u X Y F S) (ha : p[i]? = some a) : alnB r u (pB ((i : Int) ∈ X)) a = alnN r u F p i := by
  unfold alnN
  rw [ha, h.first.mem]
theorem from_le {f : Nat → Int} {B : Int} (hB : 0 ≤ B) (h : ∀ j, 0 ≤ f j ∧ f j ≤ B) (a m : Nat) : 0 ≤ fromI f a m ∧ fromI f a m ≤ m * B := sumI_le (fun j => by
  show 0 ≤ (if a ≤ j then f j else 0) ∧ (if a ≤ j then f j else 0) ≤ B
  split
  · exact h j
  · omega) m
theorem c_rviol0 (r : Reg) (u : Rule) (W : Travel) (X Y : List Int) (F S : List Bool) (p : List Placed) (hW : WayL W) (hX : ListOk r u X Y F S) (hp : p.length = r.classes.length) (hr : r.classes.length ≤ 24) (hN : 0 ≤ u.n ∧ u.n ≤ 24) (ht : u.times.length ≤ 100000) (hm : u.rooms.length ≤ 100000)
    (h1 : PCall Tryz.prog 20 [ag r.cells, ag u.row] (fun a => a = vint .i64 0))
    (h2 : PCall Tryz.prog 56 [ag r.cells, ag u.row] (fun a => a = .tup [.pv (encInts X), .pv (encInts Y), ag W.row])) :
    PCall Tryz.prog 18 [ag r.cells, ag u.row, .pv (.sl 5 (p.map Placed.row))] (fun v => v = .tup [vint .i64 (vioN r u W F S p), vint .i64 0]) := by
  have hXl := hX.first.len
  have hB : ∀ i, i < 24 → 0 ≤ refN r u W F S p i ∧ refN r u W F S p i ≤ 100 := fun i hi => by
    have a1 := alnN_le (r := r) (u := u) (F := F) (p := p) i
    have a2 := from_le (f := fun k => togN r u W F S p i k) (B := 2) (by omega) (fun k => togN_le (r := r) (u := u) (W := W) (F := F) (S := S) (p := p) (i := k) i) (i + 1) p.length
    unfold refN; omega
  have hS0 : ∀ m : Nat, m ≤ p.length → 0 ≤ sumI (refN r u W F S p) m ∧ sumI (refN r u W F S p) m ≤ m * 100 := fun m => by
    induction m with
    | zero => intro _; simp [sumI]
    | succ m ih =>
      intro hm
      have h1 := ih (by omega)
      have h2 := hB m (by omega)
      simp only [sumI]
      omega
  refine acall_of tok mixed 135 rfl (fn := Tryz.f18) (c := Tryz.f18.body.getD .skip) (by kernel_rfl) (by kernel_rfl) (by kernel_rfl) rfl 0 rfl ?_
  repeat' (first | ((change vcFun _ _ _ _ _; refine call_frz rfl (by repeat' (first | trivial | refine And.intro ?_ ?_ | (show 0 + _ ≤ List.length _; simp))) ALeL.refl h2 ?_; rintro _ rfl)) | refine o1 ?_ | refine o2 ?_ | refine k1 ?_ | refine k2 ?_ | refine k3 ?_ | refine k4 ?_ | refine k6 ?_ | refine And.intro ?_ ?_ | (intro h; first | exact Bool.noConfusion h | exact nz _ h | exact nl h | (simp at h; done) | (simp at h; first | (exfalso; omega) | skip) | skip) | exact (by kernel_rfl : drawOk _ _ = true) | refine eqv_len_map ?_ | (change vcFun _ _ _ _ _; refine call_eq rfl (by repeat' (first | trivial | refine And.intro ?_ ?_ | (show 0 + _ ≤ List.length _; simp))) ALeL.refl (h1) rfl ?_) | fail)
  refine loop_in (fun x : Nat × Int => [(13, vint .i64 x.1), (12, vint .i64 x.2)]) (fun _ => [some ⟨37, 14, false, .box (pvs r.cells)⟩, some ⟨58, 13, false, .box (pvs u.row)⟩, some ⟨31, 2, false, .box (pvs W.row)⟩]) (fun x => x.1 ≤ p.length ∧ x.2 = sumI (refN r u W F S p) x.1) (fun x => p.length - x.1) (0, 0) ⟨Nat.zero_le _, rfl⟩ ⟨?_, ?_⟩
  · exact back [0, 1, 2] rfl rfl ⟨rfl, rfl, rfl, trivial⟩ (by repeat' (first | exact trivial | exact rfl | refine And.intro ?_ ?_))
  rintro ⟨i, n⟩ ⟨hi, hn⟩
  dsimp only at hi hn ⊢
  have hSi := hS0 i hi
  rcases Nat.lt_or_ge i p.length with hlt | hge
  · obtain ⟨a, ha⟩ := getE hlt
    have hal := c_ralone r u X i a (by omega) ht hm
    rw [one_aln hX ha] at hal
    have hA1 := alnN_le (r := r) (u := u) (F := F) (p := p) i
    have hSn := hS0 (i + 1) (by omega)
    have hSe : sumI (refN r u W F S p) (i + 1) = sumI (refN r u W F S p) i + (alnN r u F p i + fromI (fun k => togN r u W F S p i k) (i + 1) p.length) := rfl
    have hTb := from_le (f := fun k => togN r u W F S p i k) (B := 2) (by omega) (fun k => togN_le (r := r) (u := u) (W := W) (F := F) (S := S) (p := p) (i := k) i) (i + 1)
    generalize alnN r u F p i = AL at *
    repeat' (first | (refine idx_sl (k := i) (at_map ha) rfl ?_) | refine o1 ?_ | refine o2 ?_ | refine k1 ?_ | refine k2 ?_ | refine k3 ?_ | refine k4 ?_ | refine k6 ?_ | refine And.intro ?_ ?_ | refine o3 ?_ | refine o4 ?_ | (intro h; first | exact Bool.noConfusion h | exact nz _ h | exact nl h | (simp at h; done) | (simp at h; first | (exfalso; omega) | skip) | skip) | exact (by kernel_rfl : drawOk _ _ = true) | refine eqv_len_map ?_ | refine eqv_wrap (by omega) (by omega) ?_ | (change vcFunD _ _ _ _ _; refine callD_eq rfl (by repeat' (first | trivial | refine And.intro ?_ ?_ | (show 0 + _ ≤ List.length _; simp))) ALeL.refl (hal) rfl ?_) | fail)
    refine loop_in (fun x : Nat × Int => [(14, vint .i64 x.1), (12, vint .i64 x.2)]) (fun _ => [some ⟨37, 14, false, .box (pvs r.cells)⟩, some ⟨58, 13, false, .box (pvs u.row)⟩, some ⟨31, 2, false, .box (pvs W.row)⟩]) (fun x => i + 1 ≤ x.1 ∧ x.1 ≤ p.length ∧ x.2 = n + AL + fromI (fun k => togN r u W F S p i k) (i + 1) x.1) (fun x => p.length - x.1) (i + 1, n + AL) ⟨by omega, by omega, by rw [from_lo (Nat.le_refl _)]; omega⟩ ⟨?_, ?_⟩
    · exact back [0, 1, 2] rfl rfl ⟨rfl, rfl, rfl, trivial⟩ (by repeat' (first | exact trivial | exact rfl | refine And.intro ?_ ?_))
    rintro ⟨k, m⟩ ⟨hk1, hk2, hm2⟩
    dsimp only at hk1 hk2 hm2
    have hTk := hTb k
    rcases Nat.lt_or_ge k p.length with hkl | hkg
    · obtain ⟨b, hb⟩ := getE hkl
      have hbo := c_rboth r u W X Y i k a b hW (by omega) hX.ylen
      rw [both_tog hX ha hb] at hbo
      have hfn := from_next (f := fun k => togN r u W F S p i k) hk1
      have hT1 := togN_le (r := r) (u := u) (W := W) (F := F) (S := S) (p := p) (i := k) i
      try dsimp only at hfn
      generalize togN r u W F S p i k = TG at *
      repeat' (first | (refine idx_sl (k := i) (at_map ha) rfl ?_) | (refine idx_sl (k := k) (at_map hb) rfl ?_) | refine o1 ?_ | refine o2 ?_ | refine k1 ?_ | refine k2 ?_ | refine k3 ?_ | refine k4 ?_ | refine k6 ?_ | refine And.intro ?_ ?_ | refine o3 ?_ | refine o4 ?_ | (intro h; first | exact Bool.noConfusion h | exact nz _ h | exact nl h | (simp at h; done) | (simp at h; first | (exfalso; omega) | skip) | skip) | exact (by kernel_rfl : drawOk _ _ = true) | refine eqv_len_map ?_ | refine eqv_wrap (by omega) (by omega) ?_ | (change vcFunD _ _ _ _ _; refine callD_eq rfl (by repeat' (first | trivial | refine And.intro ?_ ?_ | (show 0 + _ ≤ List.length _; simp))) ALeL.refl (hbo) rfl ?_) | fail)
      exact ⟨(k + 1, m + TG), ⟨by omega, by omega, by dsimp only; rw [hfn]; omega⟩, by dsimp only; omega, back [0, 1, 2] rfl rfl ⟨rfl, rfl, rfl, trivial⟩ (by repeat' (first | exact trivial | exact rfl | refine And.intro ?_ ?_))⟩
    · obtain rfl : k = p.length := by omega
      repeat' (first | refine o1 ?_ | refine o2 ?_ | refine k1 ?_ | refine k2 ?_ | refine k3 ?_ | refine k8 ?_ | refine And.intro ?_ ?_ | (intro h; first | exact Bool.noConfusion h | exact nz _ h | exact nl h | (simp at h; done) | (simp at h; first | (exfalso; omega) | skip) | skip) | refine eqv_len_map ?_ | refine eqv_wrap (by omega) (by omega) ?_ | fail)
      exact ⟨(i + 1, m), ⟨by dsimp only; omega, by dsimp only; omega⟩, by dsimp only; omega, back [0, 1, 2] rfl rfl ⟨rfl, rfl, rfl, trivial⟩ (by repeat' (first | exact trivial | exact rfl | refine And.intro ?_ ?_))⟩
  · obtain rfl : i = p.length := by omega
    by_cases h7 : u.kind = 7
    · have e : vioN r u W F S p = beyN F p u.n := if_pos h7
      have hn0 : n = 0 := by rw [hn]; exact ref_zero h7
      clear hn hSi hS0 hB
      subst hn0
      rw [e]
      repeat' (first | refine o1 ?_ | refine o2 ?_ | refine k1 ?_ | refine k2 ?_ | refine k3 ?_ | refine k4 ?_ | refine k6 ?_ | refine k8 ?_ | refine And.intro ?_ ?_ | (intro h; first | exact Bool.noConfusion h | exact nz _ h | exact nl h | (simp at h; done) | (simp at h; first | (exfalso; omega) | skip) | skip) | refine eqv_len_map ?_ | fail)
      refine loop_in (fun x : Nat × Int => [(15, vint .i64 x.1), (12, vint .i64 x.2)]) (fun _ => [some ⟨37, 14, false, .box (pvs r.cells)⟩, some ⟨58, 13, false, .box (pvs u.row)⟩, some ⟨31, 2, false, .box (pvs W.row)⟩]) (fun x => x.1 ≤ 20 ∧ x.2 = sumI (weekN F p u.n) x.1) (fun x => 20 - x.1) (0, 0) ⟨by omega, rfl⟩ ⟨?_, ?_⟩
      · exact back [0, 1, 2] rfl rfl ⟨rfl, rfl, rfl, trivial⟩ (by repeat' (first | exact trivial | exact rfl | refine And.intro ?_ ?_))
      rintro ⟨w, n⟩ ⟨hw, hnw⟩
      dsimp only at hw hnw ⊢
      have hA : ∀ m : Nat, 0 ≤ sumI (weekN F p u.n) m ∧ sumI (weekN F p u.n) m ≤ m * 700 := sumI_le fun j => by have := weekN_le (F := F) (p := p) hN.1 j; omega
      have hA1 := hA w
      have hA2 := hA (w + 1)
      have hAe : sumI (weekN F p u.n) (w + 1) = sumI (weekN F p u.n) w + sumI (overN F p u.n w) 7 := rfl
      rcases Nat.lt_or_ge w 20 with hlt | hge
      · repeat' (first | refine o1 ?_ | refine o2 ?_ | refine k1 ?_ | refine k2 ?_ | refine k3 ?_ | refine k4 ?_ | refine k6 ?_ | refine And.intro ?_ ?_ | (intro h; first | exact Bool.noConfusion h | exact nz _ h | exact nl h | (simp at h; done) | (simp at h; first | (exfalso; omega) | skip) | skip) | fail)
        refine loop_in (fun x : Nat × Int => [(16, vint .i64 x.1), (12, vint .i64 x.2)]) (fun _ => [some ⟨37, 14, false, .box (pvs r.cells)⟩, some ⟨58, 13, false, .box (pvs u.row)⟩, some ⟨31, 2, false, .box (pvs W.row)⟩]) (fun x => x.1 ≤ 7 ∧ x.2 = n + sumI (overN F p u.n w) x.1) (fun x => 7 - x.1) (0, n) ⟨by omega, by simp [sumI]⟩ ⟨?_, ?_⟩
        · exact back [0, 1, 2] rfl rfl ⟨rfl, rfl, rfl, trivial⟩ (by repeat' (first | exact trivial | exact rfl | refine And.intro ?_ ?_))
        rintro ⟨d, n2⟩ ⟨hd, hn2⟩
        dsimp only at hd hn2 ⊢
        have hB : ∀ m : Nat, 0 ≤ sumI (overN F p u.n w) m ∧ sumI (overN F p u.n w) m ≤ m * 100 := sumI_le fun j => by have := overN_le (F := F) (p := p) (w := w) hN.1 j; omega
        have hB1 := hB d
        have hBe : sumI (overN F p u.n w) (d + 1) = sumI (overN F p u.n w) d + overN F p u.n w d := rfl
        have hB2 := overN_le (F := F) (p := p) (w := w) hN.1 d
        rcases Nat.lt_or_ge d 7 with hdl | hdg
        · repeat' (first | refine o1 ?_ | refine o2 ?_ | refine k1 ?_ | refine k2 ?_ | refine k3 ?_ | refine k4 ?_ | refine k6 ?_ | refine And.intro ?_ ?_ | (intro h; first | exact Bool.noConfusion h | exact nz _ h | exact nl h | (simp at h; done) | (simp at h; first | (exfalso; omega) | skip) | skip) | fail)
          refine loop_in (fun x : Nat × Int => [(18, vint .i64 x.1), (17, vint .i64 x.2)]) (fun _ => [some ⟨37, 14, false, .box (pvs r.cells)⟩, some ⟨58, 13, false, .box (pvs u.row)⟩, some ⟨31, 2, false, .box (pvs W.row)⟩]) (fun x => x.1 ≤ X.length ∧ x.2 = lsI (onX p w d) X x.1) (fun x => X.length - x.1) (0, 0) ⟨Nat.zero_le _, rfl⟩ ⟨?_, ?_⟩
          · exact back [0, 1, 2] rfl rfl ⟨rfl, rfl, rfl, trivial⟩ (by repeat' (first | exact trivial | exact rfl | refine And.intro ?_ ?_))
          rintro ⟨j, m⟩ ⟨hj, hmj⟩
          dsimp only at hj hmj ⊢
          have hC := sumI_le (lsF_le (p := p) (w := w) (d := (d : Int)) (L := X)) j
          rcases Nat.lt_or_ge j X.length with hjl | hjg
          · obtain ⟨y, hy⟩ := getE hjl
            obtain ⟨i0, hi0, rfl, -⟩ := hX.first.at_ y (List.mem_of_getElem? hy)
            obtain ⟨a, ha⟩ := getE (show i0 < p.length by omega)
            have hCe : lsI (onX p w d) X (j + 1) = lsI (onX p w d) X j + onX p w d i0 := by
              show lsI (onX p w d) X j + lsF (onX p w d) X j = _; rw [lsF_at hy]
            have hox : onX p w d i0 = if pB (onP a w d) then 1 else 0 := by unfold onX; rw [Int.toNat_natCast, ha]
            have hs : a.time.weeks.fdiv (2 ^ min ((w : Int)).toNat IntKind.i64.bits) = a.time.weeks.fdiv (2 ^ w) := by
              have : min ((w : Int)).toNat IntKind.i64.bits = w := by
                have : IntKind.i64.bits = 64 := rfl
                rw [this]; omega
              rw [this]
            have hC1 : 0 ≤ lsI (onX p w d) X j ∧ lsI (onX p w d) X j ≤ j * 1 := hC
            repeat' (first | (refine idx_sl (k := j) (at_map hy) rfl ?_) | (refine idx_sl (k := i0) (at_map ha) rfl ?_) | (refine ⟨_, hs, ?_⟩) | (refine (eqv_rfl ?_ : eqv (bits _ _ _ _) _)) | refine o1 ?_ | refine o2 ?_ | refine k1 ?_ | refine k2 ?_ | refine k3 ?_ | refine k4 ?_ | refine k6 ?_ | refine And.intro ?_ ?_ | (intro h; first | exact Bool.noConfusion h | exact nz _ h | exact nl h | (simp at h; done) | (simp at h; first | (exfalso; omega) | skip) | skip) | (refine (?_ : (0 : Int) ≤ _); omega) | exact (by kernel_rfl : drawOk _ _ = true) | refine eqv_len_map ?_ | refine eqv_wrap (by omega) (by omega) ?_ | refine eqv_u64 (by omega) (by omega) ?_ | (change vcFun _ _ _ _ _; refine call_eq rfl (by repeat' (first | trivial | refine And.intro ?_ ?_ | (show 0 + _ ≤ List.length _; simp))) ALeL.refl (c_rsound a.time) rfl ?_) | fail)
            all_goals try dsimp only
            all_goals first
              | exact ⟨(j + 1, m + 1), ⟨by dsimp only; omega, by dsimp only; rw [hCe, hox, pB_t ⟨by assumption, by assumption, by assumption⟩, hmj]; rfl⟩, by dsimp only; omega, back [0, 1, 2] rfl rfl ⟨rfl, rfl, rfl, trivial⟩ (by repeat' (first | exact trivial | exact rfl | refine And.intro ?_ ?_))⟩
              | exact ⟨(j + 1, m), ⟨by dsimp only; omega, by dsimp only; rw [hCe, hox, pB_f (fun h => by obtain ⟨h1, h2, h3⟩ := h; contradiction), hmj]; simp⟩, by dsimp only; omega, back [0, 1, 2] rfl rfl ⟨rfl, rfl, rfl, trivial⟩ (by repeat' (first | exact trivial | exact rfl | refine And.intro ?_ ?_))⟩
          · obtain rfl : j = X.length := by omega
            have hds := day_sum (p := p) (w := w) (d := (d : Int)) hX.first hp
            rw [hds] at hmj
            have hdy := dayN_le (F := F) (p := p) (w := w) (d := (d : Int))
            have hX2 : (bif true then if m - u.n > 0 then m - u.n else 0 else if m - u.n < 0 then m - u.n else 0) = overN F p u.n w d := by
              show (if m - u.n > 0 then m - u.n else 0) = max 0 (dayN F p w d - u.n)
              rw [hmj]
              split <;> omega
            repeat' (first | ((refine eqv_wrap (by rw [hX2]; omega) (by rw [hX2]; omega) ?_)) | refine o1 ?_ | refine o2 ?_ | refine k1 ?_ | refine k2 ?_ | refine k3 ?_ | refine k8 ?_ | refine And.intro ?_ ?_ | (intro h; first | exact Bool.noConfusion h | exact nz _ h | exact nl h | (simp at h; done) | (simp at h; first | (exfalso; omega) | skip) | skip) | refine eqv_len_map ?_ | refine eqv_wrap (by omega) (by omega) ?_ | fail)
            exact ⟨(d + 1, n2 + (bif true then if m - u.n > 0 then m - u.n else 0 else if m - u.n < 0 then m - u.n else 0)), ⟨by dsimp only; omega, by dsimp only; rw [hBe, hX2]; omega⟩, by dsimp only; omega, back [0, 1, 2] rfl rfl ⟨rfl, rfl, rfl, trivial⟩ (by repeat' (first | exact trivial | exact rfl | refine And.intro ?_ ?_))⟩
        · obtain rfl : d = 7 := by omega
          repeat' (first | refine o1 ?_ | refine o2 ?_ | refine k1 ?_ | refine k2 ?_ | refine k3 ?_ | refine k8 ?_ | refine And.intro ?_ ?_ | (intro h; first | exact Bool.noConfusion h | exact nz _ h | exact nl h | (simp at h; done) | (simp at h; first | (exfalso; omega) | skip) | skip) | refine eqv_wrap (by omega) (by omega) ?_ | fail)
          exact ⟨(w + 1, n2), ⟨by dsimp only; omega, by dsimp only; omega⟩, by dsimp only; omega, back [0, 1, 2] rfl rfl ⟨rfl, rfl, rfl, trivial⟩ (by repeat' (first | exact trivial | exact rfl | refine And.intro ?_ ?_))⟩
      · obtain rfl : w = 20 := by omega
        repeat' (first | refine o1 ?_ | refine o2 ?_ | refine k1 ?_ | refine k2 ?_ | refine k3 ?_ | refine k7 ?_ | refine k8 ?_ | refine And.intro ?_ ?_ | (intro h; first | exact Bool.noConfusion h | exact nz _ h | exact nl h | (simp at h; done) | (simp at h; first | (exfalso; omega) | skip) | skip) | (change retOk _ _ _ _; refine ret_pure rfl trivial ?_) | fail)
        rw [hnw]; rfl
    · have e : vioN r u W F S p = allN r u W F S p := if_neg h7
      rw [e, ← ref_sum, ← hn]
      repeat' (first | refine o1 ?_ | refine o2 ?_ | refine k1 ?_ | refine k2 ?_ | refine k3 ?_ | refine k7 ?_ | refine k8 ?_ | refine And.intro ?_ ?_ | (intro h; first | exact Bool.noConfusion h | exact nz _ h | exact nl h | (simp at h; done) | (simp at h; first | (exfalso; omega) | skip) | skip) | (change retOk _ _ _ _; refine ret_pure rfl trivial ?_) | refine eqv_len_map ?_ | fail)
      rfl
end Go.Proofs.YtmaambipopgdkaaGreat.Cw

/-
  Plain: the table of the shortest ways, round by round.
-/
namespace Go.Proofs.YtmaambipopgdkaaGreat.Cw
open Go.Cw Go.Proofs
set_option linter.unusedVariables false

def entB (W : List (List Int)) (i k : Nat) : Int := match W[i]? with
  | some l => match l[k]? with
    | some x => x
    | none => 0
  | none => 0
def stepE (D : Nat → Nat → Int) (o i k : Nat) : Int := if D i o = -1 ∨ D o k = -1 then D i k else if D i k = -1 ∨ D i o + D o k < D i k then D i o + D o k else D i k
def dist (W : List (List Int)) : Nat → Nat → Nat → Int
  | 0 => entB W
  | o + 1 => stepE (dist W o) o
structure DOk (n : Nat) (b : Int) (D : Nat → Nat → Int) : Prop where
  diag : ∀ j, j < n → D j j = 0
  lo : ∀ i k, i < n → k < n → -1 ≤ D i k
  hi : ∀ i k, i < n → k < n → D i k ≤ b
section
variable {n : Nat} {b : Int} {D : Nat → Nat → Int} (h : DOk n b D) {o : Nat} (ho : o < n)
include h ho
theorem step_ok (hb : 0 ≤ b) : DOk n (2 * b) (stepE D o) := by
  refine ⟨fun j hj => ?_, fun i k hi hk => ?_, fun i k hi hk => ?_⟩
  · have h1 := h.diag j hj
    have h2 := h.lo j o hj ho
    have h3 := h.lo o j ho hj
    unfold stepE
    rw [h1]
    split
    · rfl
    · rw [if_neg (by omega)]
  · have h1 := h.lo i k hi hk
    have h2 := h.lo i o hi ho
    have h3 := h.lo o k ho hk
    unfold stepE
    (repeat' split) <;> omega
  · have h1 := h.hi i k hi hk
    have h2 := h.hi i o hi ho
    have h3 := h.hi o k ho hk
    unfold stepE
    (repeat' split) <;> omega
theorem step_col {i : Nat} (hi : i < n) : stepE D o i o = D i o := by
  have h1 := h.diag o ho
  unfold stepE
  rw [h1]
  split
  · rfl
  · rw [if_neg (by omega)]
theorem step_row {k : Nat} (hk : k < n) : stepE D o o k = D o k := by
  have h1 := h.diag o ho
  unfold stepE
  rw [h1]
  split
  · rfl
  · rw [if_neg (by omega)]
/-- The table within a round: what lies ahead of (i, k) is new. -/
def mixD (D : Nat → Nat → Int) (o i k a c : Nat) : Int := if a < i ∨ (a = i ∧ c < k) then stepE D o a c else D a c
theorem mix_col {i k a : Nat} (ha : a < n) : mixD D o i k a o = D a o := by
  unfold mixD
  split
  · exact step_col h ho ha
  · rfl
theorem mix_row {i k c : Nat} (hc : c < n) : mixD D o i k o c = D o c := by
  unfold mixD
  split
  · exact step_row h ho hc
  · rfl
end
theorem mix_at {D : Nat → Nat → Int} {o i k : Nat} : mixD D o i k i k = D i k := if_neg (by omega)
theorem mix_zero {D : Nat → Nat → Int} {o a c : Nat} : mixD D o 0 0 a c = D a c := if_neg (by omega)
theorem mix_next {D : Nat → Nat → Int} {o i k a c : Nat} : mixD D o i (k + 1) a c = if a = i ∧ c = k then stepE D o i k else mixD D o i k a c := by
  unfold mixD
  by_cases e : a = i ∧ c = k
  · obtain ⟨rfl, rfl⟩ := e
    rw [if_pos (by omega), if_pos ⟨rfl, rfl⟩]
  · rw [if_neg e]
    by_cases e2 : a < i ∨ (a = i ∧ c < k)
    · rw [if_pos e2, if_pos (by omega)]
    · rw [if_neg e2, if_neg (by omega)]
theorem mix_turn {D : Nat → Nat → Int} {n o i a c : Nat} (hc : c < n) : mixD D o i n a c = mixD D o (i + 1) 0 a c := by
  unfold mixD
  by_cases e2 : a < i ∨ (a = i ∧ c < n)
  · rw [if_pos e2, if_pos (by omega)]
  · rw [if_neg e2, if_neg (by omega)]
theorem mix_all {D : Nat → Nat → Int} {n o a c : Nat} (ha : a < n) : mixD D o n 0 a c = stepE D o a c := if_pos (.inl ha)
theorem dist_ok {n : Nat} {W : List (List Int)} (h : DOk n 24 (entB W)) : ∀ o, o ≤ n → DOk n (24 * 2 ^ o) (dist W o)
  | 0, _ => by
    show DOk n (24 * 2 ^ 0) (entB W)
    simpa using h
  | o + 1, ho => by
    have h1 := step_ok (dist_ok h o (by omega)) (by omega : o < n) (by have : (0 : Int) < 2 ^ o := Int.pow_pos (by decide); omega)
    have e : (24 * 2 ^ (o + 1) : Int) = 2 * (24 * 2 ^ o) := by rw [Int.pow_succ]; omega
    rw [e]
    exact h1
theorem dist_le {n : Nat} {W : List (List Int)} (h : DOk n 24 (entB W)) (hn : n ≤ 8) {o : Nat} (ho : o ≤ n) : DOk n 6144 (dist W o) := by
  have h1 := dist_ok h o ho
  refine ⟨h1.diag, h1.lo, fun i k hi hk => ?_⟩
  have h2 := h1.hi i k hi hk
  have h3 : (2 : Int) ^ o ≤ 2 ^ 8 := by
    have : (2 : Nat) ^ o ≤ 2 ^ 8 := Nat.pow_le_pow_right (by decide) (by omega)
    exact_mod_cast this
  have : (2 : Int) ^ 8 = 256 := by decide
  omega
/-- A table as lists. -/
def rowL (n : Nat) (D : Nat → Nat → Int) (i : Nat) : List Int := (List.range n).map fun k => D i k
def matL (n : Nat) (D : Nat → Nat → Int) : List (List Int) := (List.range n).map (rowL n D)
theorem rowL_len {n : Nat} {D : Nat → Nat → Int} {i : Nat} : (rowL n D i).length = n := by simp [rowL]
theorem matL_len {n : Nat} {D : Nat → Nat → Int} : (matL n D).length = n := by simp [matL]
theorem rowL_at {n : Nat} {D : Nat → Nat → Int} {i k : Nat} (hk : k < n) : (rowL n D i)[k]? = some (D i k) := by simp [rowL, hk]
theorem matL_at {n : Nat} {D : Nat → Nat → Int} {i : Nat} (hi : i < n) : (matL n D)[i]? = some (rowL n D i) := by simp [matL, hi]
theorem rowL_congr {n : Nat} {D E : Nat → Nat → Int} {i : Nat} (h : ∀ k, k < n → D i k = E i k) : rowL n D i = rowL n E i := List.map_congr_left fun k hk => h k (List.mem_range.1 hk)
theorem rowL_set {n : Nat} {D E : Nat → Nat → Int} {i k : Nat} {x : Int} (hk : k < n) (h : ∀ c, c < n → E i c = if c = k then x else D i c) : (rowL n D i).set k x = rowL n E i := by
  apply List.ext_getElem?
  intro c
  rw [List.getElem?_set]
  by_cases hc : c < n
  · rw [rowL_at hc, rowL_at hc, h c hc, rowL_len]
    by_cases e : k = c
    · subst e; simp [hk]
    · rw [if_neg e, if_neg (fun h => e h.symm)]
  · have e : ∀ F : Nat → Nat → Int, (rowL n F i)[c]? = none := fun F => List.getElem?_eq_none (by rw [rowL_len]; omega)
    rw [e, e, if_neg (by omega)]
/-- A square table is its own. -/
theorem matL_ent {n : Nat} {W : List (List Int)} (hl : W.length = n) (hr : ∀ l ∈ W, l.length = n) : matL n (entB W) = W := by
  apply List.ext_getElem?
  intro i
  by_cases hi : i < n
  · rw [matL_at hi]
    obtain ⟨l, hl2⟩ : ∃ l, W[i]? = some l := ⟨_, List.getElem?_eq_getElem (by omega)⟩
    rw [hl2]
    have hll := hr l (List.mem_of_getElem? hl2)
    congr 1
    apply List.ext_getElem?
    intro k
    by_cases hk : k < n
    · rw [rowL_at hk]
      obtain ⟨x, hx⟩ : ∃ x, l[k]? = some x := ⟨_, List.getElem?_eq_getElem (by omega)⟩
      rw [hx]; unfold entB; rw [hl2]; dsimp only; rw [hx]
    · rw [List.getElem?_eq_none (by rw [rowL_len]; omega), List.getElem?_eq_none (by omega)]
  · rw [List.getElem?_eq_none (by rw [matL_len]; omega), List.getElem?_eq_none (by omega)]
/-- The closed table. -/
def closeV (t : Travel) : Travel := ⟨t.blds, matL t.blds.length fun i k => min (dist t.slots t.blds.length i k) 24⟩
theorem trav_ok {t : Travel} (h : travE t = 0) : t.blds.length ≤ 8 ∧ t.slots.length = t.blds.length ∧ (∀ l ∈ t.slots, l.length = t.blds.length) ∧ DOk t.blds.length 24 (entB t.slots) := by
  unfold travE at h
  (repeat' split at h) <;> first | omega | skip
  · rename_i h1 h2 h3 h4
    have h3 : squareP t := Classical.not_not.1 h3
    have h4 : tableP t := Classical.not_not.1 h4
    have hc : ∀ i k, i < t.blds.length → k < t.blds.length → ∃ row x, t.slots[i]? = some row ∧ row[k]? = some x ∧ entB t.slots i k = x ∧ (-1 ≤ x ∧ x ≤ 24) ∧ (i = k → x = 0) := fun i k hi hk => by
      obtain ⟨l, hl⟩ : ∃ l, t.slots[i]? = some l := ⟨_, List.getElem?_eq_getElem (by rw [h3.1]; exact hi)⟩
      obtain ⟨x, hx⟩ : ∃ x, l[k]? = some x := ⟨_, List.getElem?_eq_getElem (by rw [h3.2 l (List.mem_of_getElem? hl)]; exact hk)⟩
      obtain ⟨g1, g2, -⟩ := h4 i hi k hk l x hl hx
      exact ⟨l, x, hl, hx, by unfold entB; rw [hl]; dsimp only; rw [hx], g1, g2⟩
    refine ⟨by omega, h3.1, h3.2, fun j hj => ?_, fun i k hi hk => ?_, fun i k hi hk => ?_⟩
    · obtain ⟨l, x, -, -, e, -, g⟩ := hc j j hj hj
      rw [e]; exact g rfl
    · obtain ⟨l, x, -, -, e, g, -⟩ := hc i k hi hk
      rw [e]; exact g.1
    · obtain ⟨l, x, -, -, e, g, -⟩ := hc i k hi hk
      rw [e]; exact g.2
end Go.Proofs.YtmaambipopgdkaaGreat.Cw

/-
  Tables whose rows are slices of their own: plain, and in a heap.
-/
namespace Go.Proofs.YtmaambipopgdkaaGreat.Cw
open Go Go.Cw Go.Proofs
set_option linter.unusedVariables false
set_option maxRecDepth 100000

/-- A table that is being turned into another one, entry by entry. -/
def mixG (D E : Nat → Nat → Int) (i k a c : Nat) : Int := if a < i ∨ (a = i ∧ c < k) then E a c else D a c
section
variable {D E : Nat → Nat → Int} {n i k : Nat}
theorem mixG_at : mixG D E i k i k = D i k := if_neg (by omega)
theorem mixG_next {a c : Nat} : mixG D E i (k + 1) a c = if a = i ∧ c = k then E i k else mixG D E i k a c := by
  unfold mixG
  by_cases e : a = i ∧ c = k
  · obtain ⟨rfl, rfl⟩ := e
    rw [if_pos (by omega), if_pos ⟨rfl, rfl⟩]
  · rw [if_neg e]
    by_cases e2 : a < i ∨ (a = i ∧ c < k)
    · rw [if_pos e2, if_pos (by omega)]
    · rw [if_neg e2, if_neg (by omega)]
theorem mixG_turn {a c : Nat} (hc : c < n) : mixG D E i n a c = mixG D E (i + 1) 0 a c := by
  unfold mixG
  by_cases e2 : a < i ∨ (a = i ∧ c < n)
  · rw [if_pos e2, if_pos (by omega)]
  · rw [if_neg e2, if_neg (by omega)]
theorem mixG_all {a c : Nat} (ha : a < n) : mixG D E n 0 a c = E a c := if_pos (.inl ha)
end
/-- A row as an object; the rows of a table as objects; the cells that name them. -/
def rowO (l : List Int) : AObj := ⟨3, 1, false, .p (l.map fun n => [ei n])⟩
def RowsOk (n : Nat) (D : Nat → Nat → Int) (T : Heap) : Prop := ∀ u, u < n → T[u]? = some (some (rowO (rowL n D u)))
def cellsI (k n m : Nat) : List (List AV) := (List.range' k m).map fun i => [.ms i 1 0 n]
theorem RowsOk.congr {n : Nat} {D E : Nat → Nat → Int} {T : Heap} (h : RowsOk n D T) (e : ∀ a c, a < n → c < n → D a c = E a c) : RowsOk n E T := fun u hu => by
  rw [h u hu, rowL_congr fun c hc => e u c hu hc]
theorem RowsOk.set {n i k : Nat} {D E : Nat → Nat → Int} {T : Heap} {x : Int} (h : RowsOk n D T) (hi : i < n) (hk : k < n) (e : ∀ a c, a < n → c < n → E a c = if a = i ∧ c = k then x else D a c) :
    RowsOk n E (T.set i (some (rowO ((rowL n D i).set k x)))) := fun u hu => by
  rw [List.getElem?_set]
  by_cases e1 : i = u
  · subst e1
    rw [if_pos rfl, if_pos (List.getElem?_eq_some_iff.1 (h i hi)).1]
    rw [rowL_set (E := E) hk fun c hc => by
      rw [e i c hi hc]
      by_cases e2 : c = k
      · rw [if_pos e2, if_pos ⟨rfl, e2⟩]
      · rw [if_neg e2, if_neg fun q => e2 q.2]]
  · rw [if_neg e1, h u hu, rowL_congr (E := E) fun c hc => by rw [e u c hu hc, if_neg fun q => e1 q.1.symm]]
theorem cellsI_len {k n m : Nat} : (cellsI k n m).length = m := by simp [cellsI]
theorem cellsI_at {k n m u : Nat} (h : u < m) : (cellsI k n m)[u]? = some [.ms (u + k) 1 0 n] := by
  unfold cellsI
  rw [List.getElem?_map, List.getElem?_range' h, Nat.one_mul, Nat.add_comm k u]; rfl
theorem keep_nil {Γ : Slots} : ∀ s x, get [] s = some x → get Γ s = some x := fun s x h => by cases h
theorem keep_cons {Γ G : Slots} {k : Nat} {v : AV} (h1 : get Γ k = some v) (h2 : ∀ s x, get G s = some x → get Γ s = some x) : ∀ s x, get ((k, v) :: G) s = some x → get Γ s = some x := fun s x h => by
  unfold Go.Cw.get at h
  cases hk : Nat.beq k s
  · rw [hk] at h; exact h2 s x h
  · rw [hk] at h
    obtain rfl := Nat.eq_of_beq_eq_true hk
    rw [h1]; exact h
/-- Back to a loop's head with the same heap. -/
theorem back_same {n nh : Nat} {Γ G : Slots} {H : Heap} (h : ∀ s x, get G s = some x → get Γ s = some x) : Ghost n nh Γ H G H := Ghost.keep h
/-- The rows read as pure slices. -/
theorem conv_row {H : Heap} {d i n : Nat} {l : List Int} (h : H[i]? = some (some (rowO l))) (hl : l.length = n) : convC H (d + 1) (.ms i 1 0 n) = some (.sl 1 (l.map fun n => [ei n])) := by
  simp only [convC, h, rowO]
  simp [List.take_of_length_le, hl]
theorem cells_succ {k n m : Nat} : cellsI k n (m + 1) = [.ms k 1 0 n] :: cellsI (k + 1) n m := by simp [cellsI, List.range'_succ]
theorem conv_rows {H : Heap} {d n : Nat} : ∀ (A : List (List Int)) (k : Nat), (∀ (j : Nat) l, A[j]? = some l → H[j + k]? = some (some (rowO l)) ∧ l.length = n) → mapO (mapO (convC H (d + 1))) (cellsI k n A.length) = some (A.map intsRow)
  | [], _, _ => rfl
  | l :: A, k, h => by
    obtain ⟨h0, hl⟩ := h 0 l rfl
    rw [Nat.zero_add] at h0
    have ih := conv_rows (d := d) A (k + 1) fun j l' hj => by
      have := h (j + 1) l' (by simpa using hj)
      rw [show j + (k + 1) = j + 1 + k by omega]; exact this
    rw [List.length_cons, cells_succ]
    simp only [mapO, conv_row h0 hl, ih]
    rfl
theorem ok_rows {H : Heap} {d n : Nat} : ∀ (A : List (List Int)) (k : Nat), (∀ (j : Nat) l, A[j]? = some l → H[j + k]? = some (some (rowO l)) ∧ l.length = n) → ∀ r ∈ cellsI k n A.length, andL (okC H (d + 1)) r
  | [], _, _, r, hr => by simp [cellsI] at hr
  | l :: A, k, h, r, hr => by
    obtain ⟨h0, hl⟩ := h 0 l rfl
    rw [Nat.zero_add] at h0
    rw [List.length_cons, cells_succ, List.mem_cons] at hr
    rcases hr with rfl | hr
    · simp only [andL, okC, h0, rowO]
      simp [hl]
    · exact ok_rows A (k + 1) (fun j l' hj => by
        have := h (j + 1) l' (by simpa using hj)
        rw [show j + (k + 1) = j + 1 + k by omega]; exact this) r hr
theorem RowsOk.mat {n k : Nat} {D : Nat → Nat → Int} {T H : Heap} (h : RowsOk n D T) (hH : ∀ j, H[j + k]? = T[j]?) : ∀ (j : Nat) l, (matL n D)[j]? = some l → H[j + k]? = some (some (rowO l)) ∧ l.length = n := fun j l hj => by
  have hlt := (List.getElem?_eq_some_iff.1 hj).1
  rw [matL_len] at hlt
  rw [matL_at hlt] at hj
  injection hj with hj; subst hj
  exact ⟨by rw [hH, h j hlt], rowL_len⟩
theorem conv_mat {H : Heap} {ty id k n d : Nat} {D : Nat → Nat → Int} {T : Heap} (ho : H[id]? = some (some ⟨ty, 1, false, .m (cellsI k n n)⟩)) (h : RowsOk n D T) (hH : ∀ j, H[j + k]? = T[j]?) : convC H (d + 2) (.ms id 1 0 n) = some (.sl 1 ((matL n D).map intsRow)) := by
  have h1 := conv_rows (H := H) (d := d) (n := n) (matL n D) k (h.mat hH)
  rw [matL_len] at h1
  have ht : ((cellsI k n n).drop 0).take n = cellsI k n n := by rw [List.drop_zero, List.take_of_length_le (by rw [cellsI_len]; omega)]
  simp only [convC, ho, ht]
  rw [h1]
theorem ok_mat {H : Heap} {ty id k n d : Nat} {D : Nat → Nat → Int} {T : Heap} (ho : H[id]? = some (some ⟨ty, 1, false, .m (cellsI k n n)⟩)) (h : RowsOk n D T) (hH : ∀ j, H[j + k]? = T[j]?) : okC H (d + 2) (.ms id 1 0 n) := by
  have h1 := ok_rows (H := H) (d := d) (n := n) (matL n D) k (h.mat hH)
  rw [matL_len] at h1
  simp only [okC, ho]
  exact ⟨by rw [cellsI_len]; omega, fun r hr => h1 r (List.mem_of_mem_drop (List.mem_of_mem_take hr))⟩
end Go.Proofs.YtmaambipopgdkaaGreat.Cw

/-
  slices.Clone: what it hands back, as an object of its own and as a pure slice.
-/
namespace Go.Proofs.YtmaambipopgdkaaGreat.Cw
open Go Go.Cw Go.Proofs Go.RowKit
set_option linter.unusedVariables false
set_option maxRecDepth 100000
set_option maxHeartbeats 2000000

/-- What a clone leaves: nothing below is changed, and a row of the call's own. -/
theorem below_evo {I : Nat → Prop} {w w' : World} {β' : Beta} {I' : Nat → Prop} (hH : HSim I [] [] w) (hb : Below w.heap.size w w') (hf : ∀ (i : Nat) b, β'[i]? = some (some b) → w.heap.size ≤ b.1) (hI : ∀ b, I b → I' b) (hI2 : ∀ b, I' b → I b ∨ w.heap.size ≤ b) : Evo I [] w I' β' w' :=
  ⟨hb.os, hb.tape, hb.output, hb.size, fun i b h => by simp at h, fun i b h => .inl (hf i b h), fun b h _ => hb.block b h, fun b h => ⟨hb.block b (hH.imm b h), hI b h⟩, fun b h h2 => (hI2 b h2).elim .inl fun h3 => by omega, fun b t n h => by
    have hlt : b < w.heap.size := by
      unfold World.shape? at h
      rcases Nat.lt_or_ge b w.heap.size with h1 | h1
      · exact h1
      · rw [Array.getElem?_eq_none h1] at h; cases h
    unfold World.shape? at h ⊢
    rw [hb.block b hlt]; exact h⟩
theorem own_strs {I : Nat → Prop} {w w' : World} {v : Value} {l : List Str} {te : TypeId} (hH : HSim I [] [] w) (ho : w'.ownsRow w.heap.size te 1 v l.length (l.map Value.string)) (hb : Below w.heap.size w w') :
    ∃ I' β', HSim I' β' [] w' ∧ ARel I' β' w' (.pv (encStrs l)) v ∧ Evo I [] w I' β' w' := by
  obtain ⟨-, ⟨rfl, h0⟩ | ⟨g, cap, cur, rfl, hg, hc, h1, h2, h3, h4⟩⟩ := ho
  · obtain rfl := List.eq_nil_of_length_eq_zero h0
    refine ⟨I, [], ⟨rfl, fun i o h => by simp at h, fun i j oi oj b b' h => by simp at h, fun b h => Nat.lt_of_lt_of_le (hH.imm b h) hb.size, fun i b h => by simp at h⟩, .pv (.sl (xs := []) (fun _ _ => undef) (Nat.le_refl _) (fun i r h => by simp at h) fun i r j p h => by simp at h), below_evo hH hb (fun i b h => by simp at h) (fun b h => h) fun b h => .inl h⟩
  · have hlt : g < w'.heap.size := (Array.getElem?_eq_some_iff.1 hc).1
    have hcell : ∀ (i : Nat) (s : Str), l[i]? = some s → cur[i]? = some (.string s) := fun i s hs => by
      have hlt := (List.getElem?_eq_some_iff.1 hs).1
      have e : (cur.toList.take (l.length * 1))[i]? = some (.string s) := by rw [h4, List.getElem?_map, hs]; rfl
      rw [List.getElem?_take_of_lt (by omega)] at e
      simpa using e
    refine ⟨fun b => I b ∨ b = g, [], ⟨rfl, fun i o h => by simp at h, fun i j oi oj b b' h => by simp at h, fun b h => ?_, fun i b h => by simp at h⟩, .pv ?_, below_evo hH hb (fun i b h => by simp at h) (fun b h => .inl h) fun b h => h.elim .inl fun e => .inr (by omega)⟩
    · rcases h with h | rfl
      · exact Nat.lt_of_lt_of_le (hH.imm b h) hb.size
      · exact hlt
    · have hx : ∀ (i : Nat) r, (l.map fun s => [es s])[i]? = some r → ∃ s, l[i]? = some s ∧ r = [es s] := fun i r h => by
        simp only [List.getElem?_map, Option.map_eq_some_iff] at h
        obtain ⟨s, h, rfl⟩ := h
        exact ⟨s, h, rfl⟩
      have hlen : (l.map fun s => [es s]).length = l.length := List.length_map _
      show PRel _ w' (.sl 1 (l.map fun s => [es s])) _
      rw [← hlen]
      refine .sl (fun i _ => (cur[i]?).getD undef) (by rw [hlen]; exact h1) (fun i r h => ?_) fun i r j p h hp => ?_
      · obtain ⟨s, hs, rfl⟩ := hx i r h
        refine ⟨rfl, ⟨g, 0, none⟩, rfl, .inr rfl, fun j hj => ?_⟩
        obtain rfl : j = 0 := by omega
        have e := hcell i s hs
        rw [e]
        refine ⟨?_, rfl⟩
        rw [Addr.add_lit]
        simp only [World.cell?, hc]
        simpa using e
      · obtain ⟨s, hs, rfl⟩ := hx i r h
        have hj : j = 0 := by
          have := (List.getElem?_eq_some_iff.1 hp).1
          simp at this; exact this
        subst hj
        simp at hp; subst hp
        rw [hcell i s hs]
        exact .val _

theorem c_cloneInts (l : List Int) (hl : 0 < l.length ∧ l.length ≤ 100000) : ACall Tryz.prog 245 [.pv (encInts l)] [] (fun r H' => r = .ms 0 1 0 l.length ∧ H' = [some (rowO l)]) := by
  obtain ⟨hl0, hl⟩ := hl
  rcases l with _ | ⟨x, l⟩
  · exact absurd hl0 (by simp)
  refine acall_of tok mixed 8 rfl (fn := Tryz.f245) (c := Tryz.f245.body.getD .skip) (by kernel_rfl) (by kernel_rfl) (by kernel_rfl) rfl 0 rfl ?_
  repeat' (first | ((show rowsLen _ * _ ≤ _; simp [rowsLen] at *; omega)) | ((show rowsLen _ ≤ _; simp [rowsLen] at *; omega)) | (refine eqv_to (Rows.p ((x :: l).map fun n => [ei n])) rfl (eqv_to (x :: l).length (by simp [rowsLen]) ?_)) | refine o1 ?_ | refine o2 ?_ | refine k1 ?_ | refine k2 ?_ | refine k3 ?_ | refine k6 ?_ | refine k7 ?_ | refine And.intro ?_ ?_ | (intro h; first | exact Bool.noConfusion h | exact nz _ h | exact nl h | (simp at h; done) | (simp at h; first | (exfalso; omega) | skip) | skip) | (refine (?_ : srcLen _ = rowsLen _); rfl) | (refine (?_ : _ = rowsLen _); simp [rowsLen] <;> omega) | fail)
  exact ret_obj [1] [some (rowO (x :: l))] rfl rfl ⟨rfl, trivial⟩ (r' := .ms 0 1 0 (x :: l).length) rfl ⟨rfl, rfl⟩
theorem c_cloneStrs1 (l : List Str) (hl : 0 < l.length ∧ l.length ≤ 100000) : PCall Tryz.prog 244 [.pv (encStrs l)] (fun r => r = .pv (encStrs l)) := by
  obtain ⟨hl0, hl⟩ := hl
  rcases l with _ | ⟨x, l⟩
  · exact absurd hl0 (by simp)
  refine acall_of tok mixed 8 rfl (fn := Tryz.f244) (c := Tryz.f244.body.getD .skip) (by kernel_rfl) (by kernel_rfl) (by kernel_rfl) rfl 0 rfl ?_
  repeat' (first | ((show rowsLen _ * _ ≤ _; simp [rowsLen] at *; omega)) | ((show rowsLen _ ≤ _; simp [rowsLen] at *; omega)) | (refine eqv_to (Rows.p ((x :: l).map fun s => [es s])) rfl (eqv_to (x :: l).length (by simp [rowsLen]) ?_)) | refine o1 ?_ | refine o2 ?_ | refine k1 ?_ | refine k2 ?_ | refine k3 ?_ | refine k6 ?_ | refine k7 ?_ | refine And.intro ?_ ?_ | (intro h; first | exact Bool.noConfusion h | exact nz _ h | exact nl h | (simp at h; done) | (simp at h; first | (exfalso; omega) | skip) | skip) | (refine (?_ : srcLen _ = rowsLen _); rfl) | (refine (?_ : _ = rowsLen _); simp [rowsLen] <;> omega) | fail)
  change retOk _ _ _ _
  refine ret_pure (r0 := .pv (.sl 1 ((((x :: l).map fun s => [es s]).drop 0).take (x :: l).length))) rfl ?_ (by rw [List.drop_zero, List.take_of_length_le (by simp)]; rfl)
  show Nat.le _ _
  simp
set_option maxHeartbeats 2000000 in
theorem clone_empty (ad : Option Addr) (cap : Nat) (w : World) : Calls Tryz.prog 244 #[.slice ad 0 cap] w fun e w' => ∃ v', e = .returned v' ∧ w'.ownsRow w.heap.size 9 1 v' 0 [] ∧ Below w.heap.size w w' := by
  have t4 := Tryz.underlying4; have a4 := Tryz.isAgg4; have z4 := Tryz.sizeOf4; have v4 := Tryz.zeroValue4
  have t9 := Tryz.underlying9; have a9 := Tryz.isAgg9; have z9 := Tryz.sizeOf9; have v9 := Tryz.zeroValue9
  have t28 := Tryz.underlying28; have a28 := Tryz.isAgg28; have z28 := Tryz.sizeOf28; have v28 := Tryz.zeroValue28
  have mx : Tryz.prog.follows .mixedOrders = true := mixed
  have q28 : ∀ (w : World) (a : Option Addr) (n c n' c' : Nat), (binOp .eql 28 (.slice a n c) (.slice none n' c')).run Tryz.prog w = .ok (.bool a.isNone) w := fun w a n c n' c' => Lib.run_eql_slice_nil w _ _ a n c n' c' t28
  have u28 : ∀ w, Sem.run Tryz.prog (underlying 28) w = .ok (TypeDesc.slice 9) w := run_underlying t28
  cases ad with
  | none =>
    go_enter Tryz.func244, Tryz.ntmps244
    go_wp2
    go_ret
    exact ⟨_, rfl, ⟨rfl, .inl ⟨rfl, rfl⟩⟩, Below.refl _ w⟩
  | some a =>
    go_enter Tryz.func244, Tryz.ntmps244
    go_wp2
    go_ret
    exact ⟨_, rfl, World.ownsRow_made w #[] 0 (Nat.le_refl _) (Nat.zero_le _) rfl, (Below.refl _ w).alloc (Nat.le_refl _) _⟩
theorem c_cloneStrs (l : List Str) (hl : l.length ≤ 100000) : PCall Tryz.prog 244 [.pv (encStrs l)] (fun r => r = .pv (encStrs l)) := by
  rcases l with _ | ⟨x, l⟩
  · refine ⟨(c_cloneStrs1 [⟨#[]⟩] (by decide)).1, fun I β w vs hH hs ha => ?_⟩
    have hv := ha 0 _ rfl
    obtain rfl : β = [] := List.eq_nil_of_length_eq_zero hH.len
    obtain ⟨v, rfl⟩ : ∃ v, vs = #[v] := ⟨vs[0]'(by rw [hs]; decide), by
      apply Array.ext
      · exact hs
      · intro i h1 h2
        have : i = 0 := by simp at h2; omega
        subst this; rfl⟩
    have hv : ARel I [] w (.pv (encStrs [])) v := hv
    obtain ⟨ad, cap, rfl⟩ : ∃ ad cap, v = .slice ad 0 cap := by
      cases hv with
      | pv h =>
        have h : PRel I w (.sl 1 []) v := h
        cases h with
        | sl u hc h1 h2 => exact ⟨_, _, rfl⟩
    refine (clone_empty ad cap w).mono ?_
    rintro e w' ⟨v', rfl, ho, hb⟩
    obtain ⟨I', β', h1, h2, h3⟩ := own_strs (l := []) hH ho hb
    exact ⟨_, _, I', β', v', rfl, ⟨rfl, rfl⟩, h1, h2, h3⟩
  · exact c_cloneStrs1 (x :: l) ⟨by simp, hl⟩
end Go.Proofs.YtmaambipopgdkaaGreat.Cw
