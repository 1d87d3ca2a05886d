/-
  Part 5 of the proof (S7, S8, P1, S10, S11, S9, S12, P2, C5): what later parts use. No conditions.
-/
import Derived.Test.YtlhakdmenohdnaaMB4

/-
  The contract of flow's send.
-/
namespace Go.Proofs.Ytlhakdmenohdnaa.Cw
open Go.Cw Go.Proofs
set_option linter.unusedVariables false
set_option maxRecDepth 100000
set_option maxHeartbeats 4000000

theorem Way.lt {n : Net} {N : Nat} {A : List (List Arc)} (g : GOk n N A) {b : List (Int × Bool)} (ht : ∀ v (a : Arc), v < N → b.getD v (0, false) = ((a.1 : Int), a.2) → a.1 < n.es.length) {v r : Nat} {l : List Arc} (h : Way n.es b v l r) (hv : v < N) : r < N := by
  induction h with
  | root h => exact hv
  | step h hr ih => exact ih (g.arc (ht _ _ hv h)).2.1

theorem c_send {n : Net} {N : Nat} {A : List (List Arc)} {f : List Int} {b : List (Int × Bool)} {to r : Nat} {L : List Arc} (g : GOk n N A) (hf : FOk n f) {p : Nat → Int} (hp : Feas n f p) (hb : b.length = N)
    (ht : ∀ v (a : Arc), v < N → b.getD v (0, false) = ((a.1 : Int), a.2) → a.1 < n.es.length ∧ 0 < arcRoom n.es f a ∧ arcCo n.es a + p (arcFr n.es a) - p (arcTo n.es a) = 0 ∧ arcTo n.es a = v)
    (hto : to < N) (hw : Way n.es b to L r) (hx1 : exc (n.es.zip f) to < 0) (hx2 : 0 < exc (n.es.zip f) r) :
    ACall Try.prog 37 [.ptr 0 5 0 0, vint .i64 to, .ms 3 2 0 N] [wO n N A, iO f, iO (sumsOf N (n.es.zip f)), byO b]
      (fun r0 H' => r0 = .tup [] ∧ ∃ f' k, 0 < k ∧ FOk n f' ∧ Feas n f' p ∧ (∀ v : Nat, exc (n.es.zip f') v = exc (n.es.zip f) v + (if to = v then k else 0) - (if r = v then k else 0)) ∧ k ≤ exc (n.es.zip f) r ∧ k ≤ - exc (n.es.zip f) to ∧
        H' = [wO n N A, iO f', iO (sumsOf N (n.es.zip f')), byO b]) := by
  refine acall_of tok mixed 120 rfl (fn := Try.f37) (c := Try.f37.body.getD .skip) (by kernel_rfl) (by kernel_rfl) (by kernel_rfl) rfl 4 rfl ?_
  have hN := g.len
  have hml := g.mlen
  have hr : r < N := hw.lt g (fun v a hv e => (ht v a hv e).1) hto
  have hne : r ≠ to := fun e => by subst e; omega
  have hbd : ∀ v, -8192000 ≤ exc (n.es.zip f) v ∧ exc (n.es.zip f) v ≤ 8192000 := fun v => by
    have := exc_bound (n.es.zip f) (fun x hx => by
      obtain ⟨i, hi, e⟩ := List.getElem_of_mem hx
      subst e
      simp only [List.getElem_zip]
      simp only [List.length_zip] at hi
      have := hf.flow i (by omega)
      rw [List.getD_eq_getElem?_getD, List.getElem?_eq_getElem (by omega)] at this
      exact this) v
    have hz : (n.es.zip f).length ≤ 8192 := by simp only [List.length_zip]; omega
    omega
  have hxt := sums_get (z := n.es.zip f) hto
  have hxr := sums_get (z := n.es.zip f) hr
  have hbt := hbd to
  have hbr := hbd r
  generalize hxs : sumsOf N (n.es.zip f) = x at *
  have hxl : x.length = N := by rw [← hxs]; simp [sumsOf]
  generalize hzt : exc (n.es.zip f) to = xt at *
  generalize hzr : exc (n.es.zip f) r = xr at *
  repeat' (first | (exact (rfl : allOne _ = true)) | exact trivial | (refine (?_ : _ ≠ _); omega) | (refine (?_ : srcLen _ = rowsLen _); rfl) | (intro h; exact absurd h (Nat.succ_ne_zero _)) | (intro h; exact absurd h (Nat.not_lt_zero _))  | (exact (Nat.le_of_ble_eq_true rfl)) | (exact (by kernel_rfl : drawOk _ _ = true)) | refine ops_cons ?_ | refine ops_nil ?_ | refine opsD_cons ?_ | refine opsD_nil ?_ | refine any_step ?_ | refine any_nil ?_ | refine code_seq ?_ | refine code_region ?_ | refine code_cond ?_ | refine code_block ?_ | refine code_scope ?_ | refine code_skip ?_ | refine code_ret ?_ | refine code_exit ?_ | (refine And.intro ?_ ?_) | (intro h; first | exact Bool.noConfusion h | (simp at h; done) | simp at h | skip) | refine eqv_len_map ?_ | refine eqv_zero ?_ | refine eqv_wrap (by omega) (by omega) ?_ | refine eqv_to _ (set_map rfl rfl) ?_ | refine ⟨_, _, (by first | rfl | assumption), at_map (by assumption), ?_⟩ | refine ⟨_, at_map (by assumption), (by decide), ?_⟩ | refine ⟨_, at_map (by assumption), ?_⟩ | (refine (?_ : _ ≤ 140737488355328); simp [rowsLen] <;> omega) | (refine (?_ : _ ≤ 9223372036854775807); simp [rowsLen] <;> omega) | (refine (?_ : _ = rowsLen _); simp [rowsLen] <;> omega) | refine eqv_to _ (app_row rfl) (eqv_to _ app_len ?_) | refine eqv_to _ (app_first rfl) (eqv_to 1 rfl ?_) | refine idx_sl (at_map (by assumption)) (by omega) ?_ | refine idx_ms _ (by first | rfl | assumption) (by first | assumption | omega) ?_ | fail)
  refine code_loop (fun X : Nat × List Arc × Int => ⟨[(6, vint .i64 X.2.2), (7, vint .i64 X.1), (0, .ptr 0 5 0 0), (1, vint .i64 to), (2, .ms 3 2 0 N)], [wO n N A, iO f, iO x, byO b]⟩)
    (fun X => X.1 < N ∧ Way n.es b X.1 X.2.1 r ∧ 0 < X.2.2 ∧ X.2.2 ≤ -xt ∧ ∀ a ∈ L, a ∈ X.2.1 ∨ X.2.2 ≤ arcRoom n.es f a) (fun X => X.2.1.length)
    ⟨(to, L, 0 - xt), ⟨hto, hw, by dsimp only; omega, by dsimp only; omega, fun a h => .inl h⟩, ⟨[0, 1, 2, 3], rfl, rfl, And.intro rfl (And.intro rfl (And.intro rfl (And.intro rfl trivial))), rfl, rfl, rfl, rfl, rfl, trivial⟩⟩ ?_
  rintro ⟨v, l, m⟩ ⟨hv, hw1, hm0, hm1, hL⟩
  dsimp only at *
  have hbv := of_getD (l := b) (0, false) (i := v) (by omega)
  cases hw1 with
  | step h1 hr1 =>
    rename_i a l
    obtain ⟨ha1, ha2, ha3, htv⟩ := ht v a hv h1
    obtain ⟨g1, g2, g3, g4⟩ := g.arc ha1
    have hrm := hf.room a ha1
    rw [h1] at hbv
    repeat' (first | (exact (rfl : allOne _ = true)) | exact trivial | (refine (?_ : _ ≠ _); omega) | (refine (?_ : srcLen _ = rowsLen _); rfl) | (intro h; exact absurd h (Nat.succ_ne_zero _)) | (intro h; exact absurd h (Nat.not_lt_zero _))  | (exact (Nat.le_of_ble_eq_true rfl)) | (exact (by kernel_rfl : drawOk _ _ = true)) | refine ops_cons ?_ | refine ops_nil ?_ | refine opsD_cons ?_ | refine opsD_nil ?_ | refine any_step ?_ | refine any_nil ?_ | refine code_seq ?_ | refine code_region ?_ | refine code_cond ?_ | refine code_block ?_ | refine code_scope ?_ | refine code_skip ?_ | refine code_ret ?_ | refine code_exit ?_ | (refine And.intro ?_ ?_) | (intro h; first | exact Bool.noConfusion h | (simp at h; done) | simp at h | skip) | refine eqv_len_map ?_ | refine eqv_zero ?_ | refine eqv_wrap (by omega) (by omega) ?_ | refine eqv_to _ (set_map rfl rfl) ?_ | refine ⟨_, _, (by first | rfl | assumption), at_map (by assumption), ?_⟩ | refine ⟨_, at_map (by assumption), (by decide), ?_⟩ | refine ⟨_, at_map (by assumption), ?_⟩ | (refine (?_ : _ ≤ 140737488355328); simp [rowsLen] <;> omega) | (refine (?_ : _ ≤ 9223372036854775807); simp [rowsLen] <;> omega) | (refine (?_ : _ = rowsLen _); simp [rowsLen] <;> omega) | refine eqv_to _ (app_row rfl) (eqv_to _ app_len ?_) | refine eqv_to _ (app_first rfl) (eqv_to 1 rfl ?_) | refine idx_sl (at_map (by assumption)) (by omega) ?_ | refine idx_ms _ (by first | rfl | assumption) (by first | assumption | omega) ?_ | fail)
    change vcFun _ _ _ _ _
    refine call_eq rfl (by repeat' (first | trivial | refine And.intro ?_ ?_ | (show 0 + _ ≤ List.length _; simp only [encS_len, encB_len, encBy_len, encQ_len] at *; have := hf.len; omega))) (pw_le hf.len hxl) (c_look (x := x) g hf a ha1) rfl ?_
    simp only [lookR]
    repeat' (first | (exact (rfl : allOne _ = true)) | exact trivial | (refine (?_ : _ ≠ _); omega) | (refine (?_ : srcLen _ = rowsLen _); rfl) | (intro h; exact absurd h (Nat.succ_ne_zero _)) | (intro h; exact absurd h (Nat.not_lt_zero _))  | (exact (Nat.le_of_ble_eq_true rfl)) | (exact (by kernel_rfl : drawOk _ _ = true)) | refine ops_cons ?_ | refine ops_nil ?_ | refine opsD_cons ?_ | refine opsD_nil ?_ | refine any_step ?_ | refine any_nil ?_ | refine code_seq ?_ | refine code_region ?_ | refine code_cond ?_ | refine code_block ?_ | refine code_scope ?_ | refine code_skip ?_ | refine code_ret ?_ | refine code_exit ?_ | (refine And.intro ?_ ?_) | (intro h; first | exact Bool.noConfusion h | (simp at h; done) | simp at h | skip) | refine eqv_len_map ?_ | refine eqv_zero ?_ | refine eqv_wrap (by omega) (by omega) ?_ | refine eqv_to _ (set_map rfl rfl) ?_ | refine ⟨_, _, (by first | rfl | assumption), at_map (by assumption), ?_⟩ | refine ⟨_, at_map (by assumption), (by decide), ?_⟩ | refine ⟨_, at_map (by assumption), ?_⟩ | (refine (?_ : _ ≤ 140737488355328); simp [rowsLen] <;> omega) | (refine (?_ : _ ≤ 9223372036854775807); simp [rowsLen] <;> omega) | (refine (?_ : _ = rowsLen _); simp [rowsLen] <;> omega) | refine eqv_to _ (app_row rfl) (eqv_to _ app_len ?_) | refine eqv_to _ (app_first rfl) (eqv_to 1 rfl ?_) | refine idx_sl (at_map (by assumption)) (by omega) ?_ | refine idx_ms _ (by first | rfl | assumption) (by first | assumption | omega) ?_ | fail)
    change vcFun _ _ _ _ _
    refine call_eq rfl (by repeat' (first | trivial | refine And.intro ?_ ?_ | (show 0 + _ ≤ List.length _; simp only [encS_len, encB_len, encBy_len, encQ_len] at *; have := hf.len; omega))) (pw_le hf.len hxl) (c_behind (x := x) g hf a ha1) rfl ?_
    repeat' (first | (exact (rfl : allOne _ = true)) | exact trivial | (refine (?_ : _ ≠ _); omega) | (refine (?_ : srcLen _ = rowsLen _); rfl) | (intro h; exact absurd h (Nat.succ_ne_zero _)) | (intro h; exact absurd h (Nat.not_lt_zero _))  | (exact (Nat.le_of_ble_eq_true rfl)) | (exact (by kernel_rfl : drawOk _ _ = true)) | refine ops_cons ?_ | refine ops_nil ?_ | refine opsD_cons ?_ | refine opsD_nil ?_ | refine any_step ?_ | refine any_nil ?_ | refine code_seq ?_ | refine code_region ?_ | refine code_cond ?_ | refine code_block ?_ | refine code_scope ?_ | refine code_skip ?_ | refine code_ret ?_ | refine code_exit ?_ | (refine And.intro ?_ ?_) | (intro h; first | exact Bool.noConfusion h | (simp at h; done) | simp at h | skip) | refine eqv_len_map ?_ | refine eqv_zero ?_ | refine eqv_wrap (by omega) (by omega) ?_ | refine eqv_to _ (set_map rfl rfl) ?_ | refine ⟨_, _, (by first | rfl | assumption), at_map (by assumption), ?_⟩ | refine ⟨_, at_map (by assumption), (by decide), ?_⟩ | refine ⟨_, at_map (by assumption), ?_⟩ | (refine (?_ : _ ≤ 140737488355328); simp [rowsLen] <;> omega) | (refine (?_ : _ ≤ 9223372036854775807); simp [rowsLen] <;> omega) | (refine (?_ : _ = rowsLen _); simp [rowsLen] <;> omega) | refine eqv_to _ (app_row rfl) (eqv_to _ app_len ?_) | refine eqv_to _ (app_first rfl) (eqv_to 1 rfl ?_) | refine idx_sl (at_map (by assumption)) (by omega) ?_ | refine idx_ms _ (by first | rfl | assumption) (by first | assumption | omega) ?_ | fail)
    simp only [cond_false]
    refine ⟨(arcFr n.es a, l, if arcRoom n.es f a < m then arcRoom n.es f a else m), ⟨g2, hr1, by dsimp only; split <;> omega, by dsimp only; split <;> omega, fun a' h' => ?_⟩, Nat.lt_succ_self _, ⟨[0, 1, 2, 3], rfl, rfl, And.intro rfl (And.intro rfl (And.intro rfl (And.intro rfl trivial))), rfl, rfl, rfl, rfl, rfl, trivial⟩⟩
    dsimp only
    rcases hL a' h' with h2 | h2
    · rcases List.mem_cons.1 h2 with h3 | h3
      · subst h3; right; split <;> omega
      · exact .inl h3
    · right; split <;> omega
  | root h1 =>
    generalize b.getD r (0, false) = bv at *
    repeat' (first | (exact (rfl : allOne _ = true)) | exact trivial | (refine (?_ : _ ≠ _); omega) | (refine (?_ : srcLen _ = rowsLen _); rfl) | (intro h; exact absurd h (Nat.succ_ne_zero _)) | (intro h; exact absurd h (Nat.not_lt_zero _))  | (exact (Nat.le_of_ble_eq_true rfl)) | (exact (by kernel_rfl : drawOk _ _ = true)) | refine ops_cons ?_ | refine ops_nil ?_ | refine opsD_cons ?_ | refine opsD_nil ?_ | refine any_step ?_ | refine any_nil ?_ | refine code_seq ?_ | refine code_region ?_ | refine code_cond ?_ | refine code_block ?_ | refine code_scope ?_ | refine code_skip ?_ | refine code_ret ?_ | refine code_exit ?_ | (refine And.intro ?_ ?_) | (intro h; first | exact Bool.noConfusion h | (simp at h; done) | simp at h | skip) | refine eqv_len_map ?_ | refine eqv_zero ?_ | refine eqv_wrap (by omega) (by omega) ?_ | refine eqv_to _ (set_map rfl rfl) ?_ | refine ⟨_, _, (by first | rfl | assumption), at_map (by assumption), ?_⟩ | refine ⟨_, at_map (by assumption), (by decide), ?_⟩ | refine ⟨_, at_map (by assumption), ?_⟩ | (refine (?_ : _ ≤ 140737488355328); simp [rowsLen] <;> omega) | (refine (?_ : _ ≤ 9223372036854775807); simp [rowsLen] <;> omega) | (refine (?_ : _ = rowsLen _); simp [rowsLen] <;> omega) | refine eqv_to _ (app_row rfl) (eqv_to _ app_len ?_) | refine eqv_to _ (app_first rfl) (eqv_to 1 rfl ?_) | refine idx_sl (at_map (by assumption)) (by omega) ?_ | refine idx_ms _ (by first | rfl | assumption) (by first | assumption | omega) ?_ | fail)
    · omega
    simp only [cond_false]
    generalize hk : (if xr < m then xr else m) = k at *
    have hk0 : 0 < k := by rw [← hk]; split <;> omega
    have hk1 : k ≤ xr := by rw [← hk]; split <;> omega
    have hk2 : k ≤ m := by rw [← hk]; split <;> omega
    have hr2 : ∀ y, (x.set r y)[to]? = some xt := fun y => by rw [List.getElem?_set, if_neg hne]; exact hxt
    repeat' (first | (exact (rfl : allOne _ = true)) | exact trivial | (refine (?_ : _ ≠ _); omega) | (refine (?_ : srcLen _ = rowsLen _); rfl) | (intro h; exact absurd h (Nat.succ_ne_zero _)) | (intro h; exact absurd h (Nat.not_lt_zero _))  | (exact (Nat.le_of_ble_eq_true rfl)) | (exact (by kernel_rfl : drawOk _ _ = true)) | refine ops_cons ?_ | refine ops_nil ?_ | refine opsD_cons ?_ | refine opsD_nil ?_ | refine any_step ?_ | refine any_nil ?_ | refine code_seq ?_ | refine code_region ?_ | refine code_cond ?_ | refine code_block ?_ | refine code_scope ?_ | refine code_skip ?_ | refine code_ret ?_ | refine code_exit ?_ | (refine And.intro ?_ ?_) | (intro h; first | exact Bool.noConfusion h | (simp at h; done) | simp at h | skip) | refine eqv_len_map ?_ | refine eqv_zero ?_ | refine eqv_wrap (by omega) (by omega) ?_ | refine eqv_to _ (set_map rfl rfl) ?_ | refine ⟨_, _, (by first | rfl | assumption), at_map (by assumption), ?_⟩ | refine ⟨_, at_map (by assumption), (by decide), ?_⟩ | refine ⟨_, at_map (by assumption), ?_⟩ | (refine (?_ : _ ≤ 140737488355328); simp [rowsLen] <;> omega) | (refine (?_ : _ ≤ 9223372036854775807); simp [rowsLen] <;> omega) | (refine (?_ : _ = rowsLen _); simp [rowsLen] <;> omega) | refine eqv_to _ (app_row rfl) (eqv_to _ app_len ?_) | refine eqv_to _ (app_first rfl) (eqv_to 1 rfl ?_) | refine idx_sl (at_map (by assumption)) (by omega) ?_ | refine idx_ms _ (by first | rfl | assumption) (by first | assumption | omega) ?_ | fail)
    refine ⟨_, at_map (hr2 _), ?_⟩
    repeat' (first | (exact (rfl : allOne _ = true)) | exact trivial | (refine (?_ : _ ≠ _); omega) | (refine (?_ : srcLen _ = rowsLen _); rfl) | (intro h; exact absurd h (Nat.succ_ne_zero _)) | (intro h; exact absurd h (Nat.not_lt_zero _))  | (exact (Nat.le_of_ble_eq_true rfl)) | (exact (by kernel_rfl : drawOk _ _ = true)) | refine ops_cons ?_ | refine ops_nil ?_ | refine opsD_cons ?_ | refine opsD_nil ?_ | refine any_step ?_ | refine any_nil ?_ | refine code_seq ?_ | refine code_region ?_ | refine code_cond ?_ | refine code_block ?_ | refine code_scope ?_ | refine code_skip ?_ | refine code_ret ?_ | refine code_exit ?_ | (refine And.intro ?_ ?_) | (intro h; first | exact Bool.noConfusion h | (simp at h; done) | simp at h | skip) | refine eqv_len_map ?_ | refine eqv_zero ?_ | refine eqv_wrap (by omega) (by omega) ?_ | refine eqv_to _ (set_map rfl rfl) ?_ | refine ⟨_, _, (by first | rfl | assumption), at_map (by assumption), ?_⟩ | refine ⟨_, at_map (by assumption), (by decide), ?_⟩ | refine ⟨_, at_map (by assumption), ?_⟩ | (refine (?_ : _ ≤ 140737488355328); simp [rowsLen] <;> omega) | (refine (?_ : _ ≤ 9223372036854775807); simp [rowsLen] <;> omega) | (refine (?_ : _ = rowsLen _); simp [rowsLen] <;> omega) | refine eqv_to _ (app_row rfl) (eqv_to _ app_len ?_) | refine eqv_to _ (app_first rfl) (eqv_to 1 rfl ?_) | refine idx_sl (at_map (by assumption)) (by omega) ?_ | refine idx_ms _ (by first | rfl | assumption) (by first | assumption | omega) ?_ | fail)
    refine ⟨_, at_map (hr2 _), Nat.le_refl _, ?_⟩
    repeat' (first | (exact (rfl : allOne _ = true)) | exact trivial | (refine (?_ : _ ≠ _); omega) | (refine (?_ : srcLen _ = rowsLen _); rfl) | (intro h; exact absurd h (Nat.succ_ne_zero _)) | (intro h; exact absurd h (Nat.not_lt_zero _))  | (exact (Nat.le_of_ble_eq_true rfl)) | (exact (by kernel_rfl : drawOk _ _ = true)) | refine ops_cons ?_ | refine ops_nil ?_ | refine opsD_cons ?_ | refine opsD_nil ?_ | refine any_step ?_ | refine any_nil ?_ | refine code_seq ?_ | refine code_region ?_ | refine code_cond ?_ | refine code_block ?_ | refine code_scope ?_ | refine code_skip ?_ | refine code_ret ?_ | refine code_exit ?_ | (refine And.intro ?_ ?_) | (intro h; first | exact Bool.noConfusion h | (simp at h; done) | simp at h | skip) | refine eqv_len_map ?_ | refine eqv_zero ?_ | refine eqv_wrap (by omega) (by omega) ?_ | refine eqv_to _ (set_map rfl rfl) ?_ | refine ⟨_, _, (by first | rfl | assumption), at_map (by assumption), ?_⟩ | refine ⟨_, at_map (by assumption), (by decide), ?_⟩ | refine ⟨_, at_map (by assumption), ?_⟩ | (refine (?_ : _ ≤ 140737488355328); simp [rowsLen] <;> omega) | (refine (?_ : _ ≤ 9223372036854775807); simp [rowsLen] <;> omega) | (refine (?_ : _ = rowsLen _); simp [rowsLen] <;> omega) | refine eqv_to _ (app_row rfl) (eqv_to _ app_len ?_) | refine eqv_to _ (app_first rfl) (eqv_to 1 rfl ?_) | refine idx_sl (at_map (by assumption)) (by omega) ?_ | refine idx_ms _ (by first | rfl | assumption) (by first | assumption | omega) ?_ | fail)
    have hend : ∀ g', (∀ y : Nat, exc (n.es.zip g') y = exc (n.es.zip f) y + (if to = y then k else 0) - (if r = y then k else 0)) → (x.set r (xr - k)).set to (xt + k) = sumsOf N (n.es.zip g') := fun g' h' => by
      apply List.ext_getElem?
      intro i
      rw [List.getElem?_set, List.getElem?_set, List.length_set, hxl]
      by_cases hi : i < N
      · rw [sums_get hi, h' i]
        by_cases e1 : to = i
        · subst e1
          rw [if_pos rfl, if_pos hto, if_pos rfl, if_neg hne, hzt]
          congr 1; omega
        · rw [if_neg e1, if_neg e1]
          by_cases e2 : r = i
          · subst e2
            rw [if_pos rfl, if_pos hr, if_pos rfl, hzr]
            congr 1; omega
          · rw [if_neg e2, if_neg e2, ← hxs, sums_get hi]
            congr 1; omega
      · have e1 : ¬ to = i := by omega
        have e2 : ¬ r = i := by omega
        rw [if_neg e1, if_neg e2, List.getElem?_eq_none (by omega), List.getElem?_eq_none (by simp [sumsOf]; omega)]
    have hxl' : ((x.set r (xr - k)).set to (xt + k)).length = N := by simp [hxl]
    generalize hx' : (x.set r (xr - k)).set to (xt + k) = x' at *
    refine code_loop (fun X : Nat × List Arc × List Int => ⟨[(6, vint .i64 k), (7, vint .i64 X.1), (0, .ptr 0 5 0 0), (1, vint .i64 to), (2, .ms 3 2 0 N)], [wO n N A, iO X.2.2, iO x', byO b]⟩)
      (fun X => X.1 < N ∧ Way n.es b X.1 X.2.1 r ∧ (∀ a ∈ X.2.1, k ≤ arcRoom n.es X.2.2 a) ∧ FOk n X.2.2 ∧ Feas n X.2.2 p ∧ ∀ y : Nat, exc (n.es.zip X.2.2) y = exc (n.es.zip f) y + (if to = y then k else 0) - (if X.1 = y then k else 0)) (fun X => X.2.1.length)
      ⟨(to, L, f), ⟨hto, hw, fun a ha => by have := (hL a ha).resolve_left (by simp); dsimp only; omega, hf, hp, fun y => by dsimp only; omega⟩, ⟨[0, 1, 2, 3], rfl, rfl, And.intro rfl (And.intro rfl (And.intro rfl (And.intro rfl trivial))), rfl, rfl, rfl, rfl, rfl, trivial⟩⟩ ?_
    clear hv hbv h1 h
    rintro ⟨v, l, q⟩ ⟨hv, hw1, hl, hq, hpq, hxq⟩
    dsimp only at *
    have hbv := of_getD (l := b) (0, false) (i := v) (by omega)
    cases hw1 with
    | root h1 =>
      generalize b.getD r (0, false) = bv at *
      repeat' (first | (exact (rfl : allOne _ = true)) | exact trivial | (refine (?_ : _ ≠ _); omega) | (refine (?_ : srcLen _ = rowsLen _); rfl) | (intro h; exact absurd h (Nat.succ_ne_zero _)) | (intro h; exact absurd h (Nat.not_lt_zero _))  | (exact (Nat.le_of_ble_eq_true rfl)) | (exact (by kernel_rfl : drawOk _ _ = true)) | refine ops_cons ?_ | refine ops_nil ?_ | refine opsD_cons ?_ | refine opsD_nil ?_ | refine any_step ?_ | refine any_nil ?_ | refine code_seq ?_ | refine code_region ?_ | refine code_cond ?_ | refine code_block ?_ | refine code_scope ?_ | refine code_skip ?_ | refine code_ret ?_ | refine code_exit ?_ | (refine And.intro ?_ ?_) | (intro h; first | exact Bool.noConfusion h | (simp at h; done) | simp at h | skip) | refine eqv_len_map ?_ | refine eqv_zero ?_ | refine eqv_wrap (by omega) (by omega) ?_ | refine eqv_to _ (set_map rfl rfl) ?_ | refine ⟨_, _, (by first | rfl | assumption), at_map (by assumption), ?_⟩ | refine ⟨_, at_map (by assumption), (by decide), ?_⟩ | refine ⟨_, at_map (by assumption), ?_⟩ | (refine (?_ : _ ≤ 140737488355328); simp [rowsLen] <;> omega) | (refine (?_ : _ ≤ 9223372036854775807); simp [rowsLen] <;> omega) | (refine (?_ : _ = rowsLen _); simp [rowsLen] <;> omega) | refine eqv_to _ (app_row rfl) (eqv_to _ app_len ?_) | refine eqv_to _ (app_first rfl) (eqv_to 1 rfl ?_) | refine idx_sl (at_map (by assumption)) (by omega) ?_ | refine idx_ms _ (by first | rfl | assumption) (by first | assumption | omega) ?_ | fail)
      all_goals first | (exfalso; omega) | skip
      exact ret_obj [0, 1, 2, 3] [wO n N A, iO q, iO x', byO b] rfl rfl (And.intro rfl (And.intro rfl (And.intro rfl (And.intro rfl trivial)))) (r' := .tup []) rfl ⟨rfl, q, k, hk0, hq, hpq, hxq, hk1, by omega, by rw [hend q hxq]⟩
    | step h1 hr1 =>
      rename_i a l
      obtain ⟨ha1, ha2, ha3, htv⟩ := ht v a hv h1
      obtain ⟨g1, g2, g3, g4⟩ := g.arc ha1
      have hrm := hq.room a ha1
      have hkr := hl a (by simp)
      have hqv := of_getD (l := q) 0 (i := a.1) (by rw [hq.len]; exact ha1)
      have hqo := hq.flow a.1 ha1
      have hpo := push_ok g hq ha1 (by omega) hkr
      have hpf := push_feas g hq hpq ha1 (k := k) ha3
      have hpx := push_exc g hq ha1 k
      have hpr := push_room g hq ha1 k
      rw [h1] at hbv
      obtain ⟨i, d⟩ := a
      cases d
      · repeat' (first | (exact (rfl : allOne _ = true)) | exact trivial | (refine (?_ : _ ≠ _); omega) | (refine (?_ : srcLen _ = rowsLen _); rfl) | (intro h; exact absurd h (Nat.succ_ne_zero _)) | (intro h; exact absurd h (Nat.not_lt_zero _))  | (exact (Nat.le_of_ble_eq_true rfl)) | (exact (by kernel_rfl : drawOk _ _ = true)) | refine ops_cons ?_ | refine ops_nil ?_ | refine opsD_cons ?_ | refine opsD_nil ?_ | refine any_step ?_ | refine any_nil ?_ | refine code_seq ?_ | refine code_region ?_ | refine code_cond ?_ | refine code_block ?_ | refine code_scope ?_ | refine code_skip ?_ | refine code_ret ?_ | refine code_exit ?_ | (refine And.intro ?_ ?_) | (intro h; first | exact Bool.noConfusion h | (simp at h; done) | simp at h | skip) | refine eqv_len_map ?_ | refine eqv_zero ?_ | refine eqv_wrap (by omega) (by omega) ?_ | refine eqv_to _ (set_map rfl rfl) ?_ | refine ⟨_, _, (by first | rfl | assumption), at_map (by assumption), ?_⟩ | refine ⟨_, at_map (by assumption), (by decide), ?_⟩ | refine ⟨_, at_map (by assumption), ?_⟩ | (refine (?_ : _ ≤ 140737488355328); simp [rowsLen] <;> omega) | (refine (?_ : _ ≤ 9223372036854775807); simp [rowsLen] <;> omega) | (refine (?_ : _ = rowsLen _); simp [rowsLen] <;> omega) | refine eqv_to _ (app_row rfl) (eqv_to _ app_len ?_) | refine eqv_to _ (app_first rfl) (eqv_to 1 rfl ?_) | refine idx_sl (at_map (by assumption)) (by omega) ?_ | refine idx_ms _ (by first | rfl | assumption) (by first | assumption | omega) ?_ | fail)
        change vcFun _ _ _ _ _
        refine call_eq rfl (by repeat' (first | trivial | refine And.intro ?_ ?_ | (show 0 + _ ≤ List.length _; first | (simp only [encS_len]; have := hf.len; omega) | (simp only [List.length_map, List.length_set]; have := hq.len; omega)))) (pw_le (f := pushF q (i, false) k) hpo.len hxl') (c_behind (x := x') g hpo (i, false) ha1) rfl ?_
        repeat' (first | (exact (rfl : allOne _ = true)) | exact trivial | (refine (?_ : _ ≠ _); omega) | (refine (?_ : srcLen _ = rowsLen _); rfl) | (intro h; exact absurd h (Nat.succ_ne_zero _)) | (intro h; exact absurd h (Nat.not_lt_zero _))  | (exact (Nat.le_of_ble_eq_true rfl)) | (exact (by kernel_rfl : drawOk _ _ = true)) | refine ops_cons ?_ | refine ops_nil ?_ | refine opsD_cons ?_ | refine opsD_nil ?_ | refine any_step ?_ | refine any_nil ?_ | refine code_seq ?_ | refine code_region ?_ | refine code_cond ?_ | refine code_block ?_ | refine code_scope ?_ | refine code_skip ?_ | refine code_ret ?_ | refine code_exit ?_ | (refine And.intro ?_ ?_) | (intro h; first | exact Bool.noConfusion h | (simp at h; done) | simp at h | skip) | refine eqv_len_map ?_ | refine eqv_zero ?_ | refine eqv_wrap (by omega) (by omega) ?_ | refine eqv_to _ (set_map rfl rfl) ?_ | refine ⟨_, _, (by first | rfl | assumption), at_map (by assumption), ?_⟩ | refine ⟨_, at_map (by assumption), (by decide), ?_⟩ | refine ⟨_, at_map (by assumption), ?_⟩ | (refine (?_ : _ ≤ 140737488355328); simp [rowsLen] <;> omega) | (refine (?_ : _ ≤ 9223372036854775807); simp [rowsLen] <;> omega) | (refine (?_ : _ = rowsLen _); simp [rowsLen] <;> omega) | refine eqv_to _ (app_row rfl) (eqv_to _ app_len ?_) | refine eqv_to _ (app_first rfl) (eqv_to 1 rfl ?_) | refine idx_sl (at_map (by assumption)) (by omega) ?_ | refine idx_ms _ (by first | rfl | assumption) (by first | assumption | omega) ?_ | fail)
        exact ⟨(arcFr n.es (i, false), l, pushF q (i, false) k), ⟨g2, hr1, fun a' h' => by rw [hpr, if_neg (Way.fresh (fun v a hv e => (g.arc (ht v a hv e).1).2.1) (fun v a hv e => (ht v a hv e).2.2.2) hv (Way.step h1 hr1) h')]; exact hl a' (by simp [h']), hpo, hpf, fun y => by dsimp only; rw [hpx y, hxq y, htv]; omega⟩, Nat.lt_succ_self _,
          ⟨[0, 1, 2, 3], rfl, rfl, And.intro rfl (And.intro rfl (And.intro rfl (And.intro rfl trivial))), rfl, rfl, rfl, rfl, rfl, trivial⟩⟩
      · repeat' (first | (exact (rfl : allOne _ = true)) | exact trivial | (refine (?_ : _ ≠ _); omega) | (refine (?_ : srcLen _ = rowsLen _); rfl) | (intro h; exact absurd h (Nat.succ_ne_zero _)) | (intro h; exact absurd h (Nat.not_lt_zero _))  | (exact (Nat.le_of_ble_eq_true rfl)) | (exact (by kernel_rfl : drawOk _ _ = true)) | refine ops_cons ?_ | refine ops_nil ?_ | refine opsD_cons ?_ | refine opsD_nil ?_ | refine any_step ?_ | refine any_nil ?_ | refine code_seq ?_ | refine code_region ?_ | refine code_cond ?_ | refine code_block ?_ | refine code_scope ?_ | refine code_skip ?_ | refine code_ret ?_ | refine code_exit ?_ | (refine And.intro ?_ ?_) | (intro h; first | exact Bool.noConfusion h | (simp at h; done) | simp at h | skip) | refine eqv_len_map ?_ | refine eqv_zero ?_ | refine eqv_wrap (by omega) (by omega) ?_ | refine eqv_to _ (set_map rfl rfl) ?_ | refine ⟨_, _, (by first | rfl | assumption), at_map (by assumption), ?_⟩ | refine ⟨_, at_map (by assumption), (by decide), ?_⟩ | refine ⟨_, at_map (by assumption), ?_⟩ | (refine (?_ : _ ≤ 140737488355328); simp [rowsLen] <;> omega) | (refine (?_ : _ ≤ 9223372036854775807); simp [rowsLen] <;> omega) | (refine (?_ : _ = rowsLen _); simp [rowsLen] <;> omega) | refine eqv_to _ (app_row rfl) (eqv_to _ app_len ?_) | refine eqv_to _ (app_first rfl) (eqv_to 1 rfl ?_) | refine idx_sl (at_map (by assumption)) (by omega) ?_ | refine idx_ms _ (by first | rfl | assumption) (by first | assumption | omega) ?_ | fail)
        change vcFun _ _ _ _ _
        refine call_eq rfl (by repeat' (first | trivial | refine And.intro ?_ ?_ | (show 0 + _ ≤ List.length _; first | (simp only [encS_len]; have := hf.len; omega) | (simp only [List.length_map, List.length_set]; have := hq.len; omega)))) (pw_le (f := pushF q (i, true) k) hpo.len hxl') (c_behind (x := x') g hpo (i, true) ha1) rfl ?_
        repeat' (first | (exact (rfl : allOne _ = true)) | exact trivial | (refine (?_ : _ ≠ _); omega) | (refine (?_ : srcLen _ = rowsLen _); rfl) | (intro h; exact absurd h (Nat.succ_ne_zero _)) | (intro h; exact absurd h (Nat.not_lt_zero _))  | (exact (Nat.le_of_ble_eq_true rfl)) | (exact (by kernel_rfl : drawOk _ _ = true)) | refine ops_cons ?_ | refine ops_nil ?_ | refine opsD_cons ?_ | refine opsD_nil ?_ | refine any_step ?_ | refine any_nil ?_ | refine code_seq ?_ | refine code_region ?_ | refine code_cond ?_ | refine code_block ?_ | refine code_scope ?_ | refine code_skip ?_ | refine code_ret ?_ | refine code_exit ?_ | (refine And.intro ?_ ?_) | (intro h; first | exact Bool.noConfusion h | (simp at h; done) | simp at h | skip) | refine eqv_len_map ?_ | refine eqv_zero ?_ | refine eqv_wrap (by omega) (by omega) ?_ | refine eqv_to _ (set_map rfl rfl) ?_ | refine ⟨_, _, (by first | rfl | assumption), at_map (by assumption), ?_⟩ | refine ⟨_, at_map (by assumption), (by decide), ?_⟩ | refine ⟨_, at_map (by assumption), ?_⟩ | (refine (?_ : _ ≤ 140737488355328); simp [rowsLen] <;> omega) | (refine (?_ : _ ≤ 9223372036854775807); simp [rowsLen] <;> omega) | (refine (?_ : _ = rowsLen _); simp [rowsLen] <;> omega) | refine eqv_to _ (app_row rfl) (eqv_to _ app_len ?_) | refine eqv_to _ (app_first rfl) (eqv_to 1 rfl ?_) | refine idx_sl (at_map (by assumption)) (by omega) ?_ | refine idx_ms _ (by first | rfl | assumption) (by first | assumption | omega) ?_ | fail)
        exact ⟨(arcFr n.es (i, true), l, pushF q (i, true) k), ⟨g2, hr1, fun a' h' => by rw [hpr, if_neg (Way.fresh (fun v a hv e => (g.arc (ht v a hv e).1).2.1) (fun v a hv e => (ht v a hv e).2.2.2) hv (Way.step h1 hr1) h')]; exact hl a' (by simp [h']), hpo, hpf, fun y => by dsimp only; rw [hpx y, hxq y, htv]; omega⟩, Nat.lt_succ_self _,
          ⟨[0, 1, 2, 3], rfl, rfl, And.intro rfl (And.intro rfl (And.intro rfl (And.intro rfl trivial))), rfl, rfl, rfl, rfl, rfl, trivial⟩⟩
end Go.Proofs.Ytlhakdmenohdnaa.Cw

/-
  The contract of flow's balance.
-/
namespace Go.Proofs.Ytlhakdmenohdnaa.Cw
open Go.Cw Go.Proofs
set_option linter.unusedVariables false
set_option maxRecDepth 100000
set_option maxHeartbeats 4000000

section
variable {n : Net} {N : Nat} {A : List (List Arc)} {f : List Int} {s0 : Nat → Prop} {c : List Int} {s : List Bool} {b : List (Int × Bool)}

theorem low (p : Nat → Int) : ∀ N : Nat, ∃ K : Int, ∀ u, u < N → 0 ≤ p u + K
  | 0 => ⟨0, fun u h => absurd h (Nat.not_lt_zero u)⟩
  | N + 1 => by
    obtain ⟨K, h⟩ := low p N
    by_cases e : K ≤ - p N
    · exact ⟨- p N, fun u hu => by
        rcases Nat.lt_succ_iff_lt_or_eq.1 hu with k | k
        · have := h u k; omega
        · subst k; omega⟩
    · exact ⟨K, fun u hu => by
        rcases Nat.lt_succ_iff_lt_or_eq.1 hu with k | k
        · exact h u k
        · subst k; omega⟩

theorem Spread.feas (h : Spread n N A f s0 c s b) (g : GOk n N A) {p : Nat → Int} (hp : Feas n f p) : ∃ p', Feas n f p' ∧ ∀ v, s.getD v false = true → p' v = c.getD v 0 := by
  obtain ⟨K, hK⟩ := low p N
  have hN := g.len
  refine ⟨fun v => if s.getD v false = true then c.getD v 0 else p v + K + 4294967296, fun a ha hr => ?_, fun v hv => by simp only [hv, if_true]⟩
  obtain ⟨g1, g2, g3, g4⟩ := g.arc ha
  have h0 := hp a ha hr
  have hu := hK _ g2
  have hcv := h.bound _ g1
  have hcu := h.bound _ g2
  simp only [CM] at g3 g4 hcv hcu
  by_cases e : arcFr n.es a = arcTo n.es a
  · rw [e] at h0 ⊢; omega
  · by_cases hs : s.getD (arcFr n.es a) false = true
    · obtain ⟨k1, k2⟩ := h.sat a ha e hs hr
      simp only [hs, k1, if_true]; omega
    · simp only [hs, Bool.false_eq_true, if_false]
      split <;> omega

structure Stuck (n : Net) (N : Nat) (f : List Int) (s : List Bool) : Prop where
  len : s.length = N
  pos : ∀ v : Nat, v < N → 0 < exc (n.es.zip f) v → s.getD v false = true
  some : ∃ v : Nat, v < N ∧ 0 < exc (n.es.zip f) v
  neg : ∀ v : Nat, v < N → exc (n.es.zip f) v < 0 → s.getD v false = false
  closed : ∀ a : Arc, a.1 < n.es.length → s.getD (arcFr n.es a) false = true → 0 < arcRoom n.es f a → s.getD (arcTo n.es a) false = true

theorem Spread.stuck (h : Spread n N A f (fun v => s0 v) c s b) (g : GOk n N A) (h1 : ∀ v : Nat, v < N → 0 < exc (n.es.zip f) v → s0 v) (h2 : ∃ v : Nat, v < N ∧ 0 < exc (n.es.zip f) v) (h3 : ∀ v : Nat, v < N → exc (n.es.zip f) v < 0 → s.getD v false = false) : Stuck n N f s :=
  ⟨h.ls, fun v hv hx => h.src v hv (h1 v hv hx), h2, h3, fun a ha hs hr => by
    by_cases e : arcFr n.es a = arcTo n.es a
    · rw [← e]; exact hs
    · exact (h.sat a ha e hs hr).1⟩

def pot (n : Net) (N : Nat) (f : List Int) : Nat := sumTo (fun v => (exc (n.es.zip f) (v : Int)).toNat) N

theorem pot_lt {f' : List Int} {k : Int} {to r : Nat} (hr : r < N) (hne : r ≠ to) (hk : 0 < k) (h : ∀ v : Nat, exc (n.es.zip f') v = exc (n.es.zip f) v + (if to = v then k else 0) - (if r = v then k else 0)) (h1 : k ≤ exc (n.es.zip f) r) (h2 : k ≤ - exc (n.es.zip f) to) : pot n N f' < pot n N f := by
  refine sumTo_lt hr ?_ fun v hv => ?_
  · rw [h r, if_neg (fun e => hne e.symm), if_pos rfl]; omega
  · have e2 : ¬ r = v := fun e => hv e.symm
    rw [h v, if_neg e2]
    by_cases e : to = v
    · subst e; rw [if_pos rfl]; omega
    · rw [if_neg e]; congr 1; omega
end

def sx (x : List Int) : List Bool := x.map fun y => decide (0 < y)

theorem sx_get {x : List Int} {v : Nat} : (sx x).getD v false = decide (0 < x.getD v 0) := by
  simp only [sx, List.getD_eq_getElem?_getD, List.getElem?_map]
  cases x[v]? <;> simp

def som (s : List Bool) (i : Nat) : Bool := (s.take i).any id

theorem som_step {s : List Bool} {i : Nat} {k : Bool} (h : s[i]? = some k) : som s (i + 1) = (som s i || k) := by
  unfold som; rw [List.take_add_one, h]; simp

theorem som_true {s : List Bool} {i : Nat} (h : som s i = true) : ∃ v, v < i ∧ s.getD v false = true := by
  induction i with
  | zero => simp [som] at h
  | succ i ih =>
    cases e : s[i]? with
    | none =>
      have : som s (i + 1) = som s i := by unfold som; rw [List.take_add_one, e]; simp
      rw [this] at h
      obtain ⟨v, h1, h2⟩ := ih h
      exact ⟨v, by omega, h2⟩
    | some k =>
      rw [som_step e] at h
      cases hk : k
      · rw [hk, Bool.or_false] at h
        obtain ⟨v, h1, h2⟩ := ih h
        exact ⟨v, by omega, h2⟩
      · exact ⟨i, by omega, by rw [getD_of e, hk]⟩

theorem som_false {s : List Bool} {i : Nat} (h : som s i = false) : ∀ v, v < i → s.getD v false = false := by
  induction i with
  | zero => exact fun v hv => absurd hv (Nat.not_lt_zero v)
  | succ i ih =>
    intro v hv
    cases e : s[i]? with
    | none =>
      have : som s (i + 1) = som s i := by unfold som; rw [List.take_add_one, e]; simp
      rw [this] at h
      rcases Nat.lt_succ_iff_lt_or_eq.1 hv with k | k
      · exact ih h v k
      · subst k; simp [List.getD_eq_getElem?_getD, e]
    | some k =>
      rw [som_step e, Bool.or_eq_false_iff] at h
      rcases Nat.lt_succ_iff_lt_or_eq.1 hv with k' | k'
      · exact ih h.1 v k'
      · subst k'; rw [getD_of e, h.2]

theorem c_balance {n : Net} {N : Nat} {A : List (List Arc)} {f : List Int} (g : GOk n N A) (hf : FOk n f) {p : Nat → Int} (hp : Feas n f p) :
    ACall Try.prog 32 [.ptr 0 5 0 0] [wO n N A, iO f, iO (sumsOf N (n.es.zip f))]
      (fun r H' => ∃ f', FOk n f' ∧ (∃ p', Feas n f' p') ∧ ((r = .pv (.val (.slice none 0 0)) ∧ (∀ v : Nat, v < N → exc (n.es.zip f') v ≤ 0) ∧ H' = [wO n N A, iO f', iO (sumsOf N (n.es.zip f'))]) ∨
        (∃ s, r = .ms 3 1 0 N ∧ Stuck n N f' s ∧ H' = [wO n N A, iO f', iO (sumsOf N (n.es.zip f')), bO s]))) := by
  refine acall_of tok mixed 93 rfl (fn := Try.f32) (c := Try.f32.body.getD .skip) (by kernel_rfl) (by kernel_rfl) (by kernel_rfl) rfl 3 rfl ?_
  have hN := g.len
  have hml := g.mlen
  repeat' (first | (exact (rfl : allOne _ = true)) | exact trivial | (refine (?_ : _ ≠ _); omega) | (refine (?_ : srcLen _ = rowsLen _); rfl) | (intro h; exact absurd h (Nat.succ_ne_zero _)) | (intro h; exact absurd h (Nat.not_lt_zero _))  | (exact (Nat.le_of_ble_eq_true rfl)) | (exact (by kernel_rfl : drawOk _ _ = true)) | refine ops_cons ?_ | refine ops_nil ?_ | refine opsD_cons ?_ | refine opsD_nil ?_ | refine any_step ?_ | refine any_nil ?_ | refine code_seq ?_ | refine code_region ?_ | refine code_cond ?_ | refine code_block ?_ | refine code_scope ?_ | refine code_skip ?_ | refine code_ret ?_ | refine code_exit ?_ | (refine And.intro ?_ ?_) | (intro h; first | exact Bool.noConfusion h | (simp at h; done) | simp at h | skip) | refine eqv_len_map ?_ | refine eqv_zero ?_ | refine eqv_wrap (by omega) (by omega) ?_ | refine eqv_to _ (set_map rfl rfl) ?_ | refine ⟨_, _, (by first | rfl | assumption), at_map (by assumption), ?_⟩ | refine ⟨_, at_map (by assumption), (by decide), ?_⟩ | refine ⟨_, at_map (by assumption), ?_⟩ | (refine (?_ : _ ≤ 140737488355328); simp [rowsLen] <;> omega) | (refine (?_ : _ ≤ 9223372036854775807); simp [rowsLen] <;> omega) | (refine (?_ : _ = rowsLen _); simp [rowsLen] <;> omega) | refine eqv_to _ (app_row rfl) (eqv_to _ app_len ?_) | refine eqv_to _ (app_first rfl) (eqv_to 1 rfl ?_) | refine idx_sl (at_map (by assumption)) (by omega) ?_ | refine idx_ms _ (by first | rfl | assumption) (by first | assumption | omega) ?_ | fail)
  refine code_loop (fun f : List Int => ⟨[(0, .ptr 0 5 0 0)], [wO n N A, iO f, iO (sumsOf N (n.es.zip f))]⟩)
    (fun f => FOk n f ∧ ∃ p, Feas n f p) (fun f => pot n N f) ⟨f, ⟨hf, p, hp⟩, ⟨[0, 1, 2], rfl, rfl, And.intro rfl (And.intro rfl (And.intro rfl trivial)), rfl, trivial⟩⟩ ?_
  clear hf hp p f
  rintro f ⟨hf, p, hp⟩
  dsimp only at *
  have hxl : (sumsOf N (n.es.zip f)).length = N := by simp [sumsOf]
  have hxg : ∀ v, v < N → (sumsOf N (n.es.zip f)).getD v 0 = exc (n.es.zip f) v := fun v hv => getD_of (sums_get hv)
  generalize hxs : sumsOf N (n.es.zip f) = x at *
  repeat' (first | (exact (rfl : allOne _ = true)) | exact trivial | (refine (?_ : _ ≠ _); omega) | (refine (?_ : srcLen _ = rowsLen _); rfl) | (intro h; exact absurd h (Nat.succ_ne_zero _)) | (intro h; exact absurd h (Nat.not_lt_zero _))  | (exact (Nat.le_of_ble_eq_true rfl)) | (exact (by kernel_rfl : drawOk _ _ = true)) | refine ops_cons ?_ | refine ops_nil ?_ | refine opsD_cons ?_ | refine opsD_nil ?_ | refine any_step ?_ | refine any_nil ?_ | refine code_seq ?_ | refine code_region ?_ | refine code_cond ?_ | refine code_block ?_ | refine code_scope ?_ | refine code_skip ?_ | refine code_ret ?_ | refine code_exit ?_ | (refine And.intro ?_ ?_) | (intro h; first | exact Bool.noConfusion h | (simp at h; done) | simp at h | skip) | refine eqv_len_map ?_ | refine eqv_zero ?_ | refine eqv_wrap (by omega) (by omega) ?_ | refine eqv_to _ (set_map rfl rfl) ?_ | refine ⟨_, _, (by first | rfl | assumption), at_map (by assumption), ?_⟩ | refine ⟨_, at_map (by assumption), (by decide), ?_⟩ | refine ⟨_, at_map (by assumption), ?_⟩ | (refine (?_ : _ ≤ 140737488355328); simp [rowsLen] <;> omega) | (refine (?_ : _ ≤ 9223372036854775807); simp [rowsLen] <;> omega) | (refine (?_ : _ = rowsLen _); simp [rowsLen] <;> omega) | refine eqv_to _ (app_row rfl) (eqv_to _ app_len ?_) | refine eqv_to _ (app_first rfl) (eqv_to 1 rfl ?_) | refine idx_sl (at_map (by assumption)) (by omega) ?_ | refine idx_ms _ (by first | rfl | assumption) (by first | assumption | omega) ?_ | fail)
  refine ⟨N, N, g.nodes, g.nodes, Nat.le_refl _, by omega, by omega, eqv_to (encS (List.replicate N 0)) (by simp [encS, ei]) ?_⟩
  repeat' (first | (exact (rfl : allOne _ = true)) | exact trivial | (refine (?_ : _ ≠ _); omega) | (refine (?_ : srcLen _ = rowsLen _); rfl) | (intro h; exact absurd h (Nat.succ_ne_zero _)) | (intro h; exact absurd h (Nat.not_lt_zero _))  | (exact (Nat.le_of_ble_eq_true rfl)) | (exact (by kernel_rfl : drawOk _ _ = true)) | refine ops_cons ?_ | refine ops_nil ?_ | refine opsD_cons ?_ | refine opsD_nil ?_ | refine any_step ?_ | refine any_nil ?_ | refine code_seq ?_ | refine code_region ?_ | refine code_cond ?_ | refine code_block ?_ | refine code_scope ?_ | refine code_skip ?_ | refine code_ret ?_ | refine code_exit ?_ | (refine And.intro ?_ ?_) | (intro h; first | exact Bool.noConfusion h | (simp at h; done) | simp at h | skip) | refine eqv_len_map ?_ | refine eqv_zero ?_ | refine eqv_wrap (by omega) (by omega) ?_ | refine eqv_to _ (set_map rfl rfl) ?_ | refine ⟨_, _, (by first | rfl | assumption), at_map (by assumption), ?_⟩ | refine ⟨_, at_map (by assumption), (by decide), ?_⟩ | refine ⟨_, at_map (by assumption), ?_⟩ | (refine (?_ : _ ≤ 140737488355328); simp [rowsLen] <;> omega) | (refine (?_ : _ ≤ 9223372036854775807); simp [rowsLen] <;> omega) | (refine (?_ : _ = rowsLen _); simp [rowsLen] <;> omega) | refine eqv_to _ (app_row rfl) (eqv_to _ app_len ?_) | refine eqv_to _ (app_first rfl) (eqv_to 1 rfl ?_) | refine idx_sl (at_map (by assumption)) (by omega) ?_ | refine idx_ms _ (by first | rfl | assumption) (by first | assumption | omega) ?_ | fail)
  refine ⟨N, N, g.nodes, g.nodes, Nat.le_refl _, by omega, by omega, eqv_to (encB (w1 (sx x) N 0)) (by simp [encB, w1]) ?_⟩
  repeat' (first | (exact (rfl : allOne _ = true)) | exact trivial | (refine (?_ : _ ≠ _); omega) | (refine (?_ : srcLen _ = rowsLen _); rfl) | (intro h; exact absurd h (Nat.succ_ne_zero _)) | (intro h; exact absurd h (Nat.not_lt_zero _))  | (exact (Nat.le_of_ble_eq_true rfl)) | (exact (by kernel_rfl : drawOk _ _ = true)) | refine ops_cons ?_ | refine ops_nil ?_ | refine opsD_cons ?_ | refine opsD_nil ?_ | refine any_step ?_ | refine any_nil ?_ | refine code_seq ?_ | refine code_region ?_ | refine code_cond ?_ | refine code_block ?_ | refine code_scope ?_ | refine code_skip ?_ | refine code_ret ?_ | refine code_exit ?_ | (refine And.intro ?_ ?_) | (intro h; first | exact Bool.noConfusion h | (simp at h; done) | simp at h | skip) | refine eqv_len_map ?_ | refine eqv_zero ?_ | refine eqv_wrap (by omega) (by omega) ?_ | refine eqv_to _ (set_map rfl rfl) ?_ | refine ⟨_, _, (by first | rfl | assumption), at_map (by assumption), ?_⟩ | refine ⟨_, at_map (by assumption), (by decide), ?_⟩ | refine ⟨_, at_map (by assumption), ?_⟩ | (refine (?_ : _ ≤ 140737488355328); simp [rowsLen] <;> omega) | (refine (?_ : _ ≤ 9223372036854775807); simp [rowsLen] <;> omega) | (refine (?_ : _ = rowsLen _); simp [rowsLen] <;> omega) | refine eqv_to _ (app_row rfl) (eqv_to _ app_len ?_) | refine eqv_to _ (app_first rfl) (eqv_to 1 rfl ?_) | refine idx_sl (at_map (by assumption)) (by omega) ?_ | refine idx_ms _ (by first | rfl | assumption) (by first | assumption | omega) ?_ | fail)
  have hsl : (sx x).length = N := by simp [sx, hxl]
  refine code_loop (fun i : Nat => ⟨[(29, vint .i64 i), (28, vint .i64 N), (27, .ms 2 1 0 N), (3, .ms 3 1 0 N), (4, .ms 4 1 0 N), (5, vbool (som (sx x) i)), (0, .ptr 0 5 0 0)],
      [wO n N A, iO f, iO x, iO (List.replicate N 0), bO (w1 (sx x) N i)]⟩)
    (fun i => i ≤ N) (fun i => N - i) ⟨0, by omega, ⟨[0, 1, 2, 3, 4], rfl, rfl, And.intro rfl (And.intro rfl (And.intro rfl (And.intro rfl (And.intro rfl trivial)))), rfl, rfl, rfl, rfl, rfl, rfl, rfl, trivial⟩⟩ ?_
  intro i hi
  have hxi : i < N → x[i]? = some (x.getD i 0) := fun h => of_getD 0 (by omega)
  repeat' (first | (exact (rfl : allOne _ = true)) | exact trivial | (refine (?_ : _ ≠ _); omega) | (refine (?_ : srcLen _ = rowsLen _); rfl) | (intro h; exact absurd h (Nat.succ_ne_zero _)) | (intro h; exact absurd h (Nat.not_lt_zero _))  | (exact (Nat.le_of_ble_eq_true rfl)) | (exact (by kernel_rfl : drawOk _ _ = true)) | refine ops_cons ?_ | refine ops_nil ?_ | refine opsD_cons ?_ | refine opsD_nil ?_ | refine any_step ?_ | refine any_nil ?_ | refine code_seq ?_ | refine code_region ?_ | refine code_cond ?_ | refine code_block ?_ | refine code_scope ?_ | refine code_skip ?_ | refine code_ret ?_ | refine code_exit ?_ | (refine And.intro ?_ ?_) | (intro h; first | exact Bool.noConfusion h | (simp at h; done) | simp at h | skip) | refine eqv_len_map ?_ | refine eqv_zero ?_ | refine eqv_wrap (by omega) (by omega) ?_ | refine eqv_to _ (set_map rfl rfl) ?_ | refine ⟨_, _, (by first | rfl | assumption), at_map (by assumption), ?_⟩ | refine ⟨_, at_map (by assumption), (by decide), ?_⟩ | refine ⟨_, at_map (by assumption), ?_⟩ | (refine (?_ : _ ≤ 140737488355328); simp [rowsLen] <;> omega) | (refine (?_ : _ ≤ 9223372036854775807); simp [rowsLen] <;> omega) | (refine (?_ : _ = rowsLen _); simp [rowsLen] <;> omega) | refine eqv_to _ (app_row rfl) (eqv_to _ app_len ?_) | refine eqv_to _ (app_first rfl) (eqv_to 1 rfl ?_) | refine idx_sl (at_map (by assumption)) (by omega) ?_ | refine idx_ms _ (by first | rfl | assumption) (by first | assumption | omega) ?_ | fail)
  · have hw := w1_get hsl h
    have hw1 := w1_step hsl h
    have hxi := hxi h
    rw [sx_get] at hw1
    have hsi : (sx x)[i]? = some (decide (0 < x.getD i 0)) := by rw [← sx_get]; exact of_getD false (by omega)
    have hany := som_step hsi
    generalize x.getD i 0 = xi at *
    repeat' (first | (exact (rfl : allOne _ = true)) | exact trivial | (refine (?_ : _ ≠ _); omega) | (refine (?_ : srcLen _ = rowsLen _); rfl) | (intro h; exact absurd h (Nat.succ_ne_zero _)) | (intro h; exact absurd h (Nat.not_lt_zero _))  | (exact (Nat.le_of_ble_eq_true rfl)) | (exact (by kernel_rfl : drawOk _ _ = true)) | refine ops_cons ?_ | refine ops_nil ?_ | refine opsD_cons ?_ | refine opsD_nil ?_ | refine any_step ?_ | refine any_nil ?_ | refine code_seq ?_ | refine code_region ?_ | refine code_cond ?_ | refine code_block ?_ | refine code_scope ?_ | refine code_skip ?_ | refine code_ret ?_ | refine code_exit ?_ | (refine And.intro ?_ ?_) | (intro h; first | exact Bool.noConfusion h | (simp at h; done) | simp at h | skip) | refine eqv_len_map ?_ | refine eqv_zero ?_ | refine eqv_wrap (by omega) (by omega) ?_ | refine eqv_to _ (set_map rfl rfl) ?_ | refine ⟨_, _, (by first | rfl | assumption), at_map (by assumption), ?_⟩ | refine ⟨_, at_map (by assumption), (by decide), ?_⟩ | refine ⟨_, at_map (by assumption), ?_⟩ | (refine (?_ : _ ≤ 140737488355328); simp [rowsLen] <;> omega) | (refine (?_ : _ ≤ 9223372036854775807); simp [rowsLen] <;> omega) | (refine (?_ : _ = rowsLen _); simp [rowsLen] <;> omega) | refine eqv_to _ (app_row rfl) (eqv_to _ app_len ?_) | refine eqv_to _ (app_first rfl) (eqv_to 1 rfl ?_) | refine idx_sl (at_map (by assumption)) (by omega) ?_ | refine idx_ms _ (by first | rfl | assumption) (by first | assumption | omega) ?_ | fail)
    · have hf0 : som (sx x) i = false := by assumption
      refine ⟨i + 1, by omega, by omega, ?_⟩
      dsimp only
      rw [hw1, hany, hf0]
      exact ⟨[0, 1, 2, 3, 4], rfl, rfl, And.intro rfl (And.intro rfl (And.intro rfl (And.intro rfl (And.intro rfl trivial)))), rfl, rfl, rfl, rfl, rfl, rfl, rfl, trivial⟩
    · have hf0 : som (sx x) i = true := by assumption
      refine ⟨i + 1, by omega, by omega, ?_⟩
      dsimp only
      rw [hw1, hany, hf0]
      exact ⟨[0, 1, 2, 3, 4], rfl, rfl, And.intro rfl (And.intro rfl (And.intro rfl (And.intro rfl (And.intro rfl trivial)))), rfl, rfl, rfl, rfl, rfl, rfl, rfl, trivial⟩
  · obtain rfl : i = N := by omega
    · have hf0 : som (sx x) i = false := by assumption
      exact ret_obj [0, 1, 2] [wO n i A, iO f, iO x] rfl rfl (And.intro rfl (And.intro rfl (And.intro rfl trivial))) (r' := .pv (.val (.slice none 0 0))) rfl ⟨f, hf, ⟨p, hp⟩, .inl ⟨rfl, fun v hv => by
        have := som_false hf0 v hv
        rw [sx_get, hxg v hv] at this
        simpa using this, by rw [hxs]⟩⟩
  · obtain rfl : i = N := by omega
    have hf0 : som (sx x) i = true := by assumption
    obtain ⟨v0, hv0, hs0⟩ := som_true hf0
    refine call_obj [0, 1, 2, 3, 4] [wO n i A, iO f, iO x, iO (List.replicate i 0), bO (sx x)] [.ptr 0 5 0 0, .ms 3 1 0 i, .ms 4 1 0 i] rfl ⟨rfl, rfl, rfl, rfl, by rw [w1_end hsl]; rfl, trivial⟩ rfl (c_spread g hf hp hxl hsl (by simp) (fun v hv => by simp [List.getD_eq_getElem?_getD, hv]) ⟨v0, hv0, hs0⟩) ?_
    rintro r H' ⟨c', s', b', hS, rfl, rfl⟩
    refine ⟨Nat.le_of_ble_eq_true rfl, ?_⟩
    repeat' (first | (exact (rfl : allOne _ = true)) | exact trivial | (refine (?_ : _ ≠ _); omega) | (refine (?_ : srcLen _ = rowsLen _); rfl) | (intro h; exact absurd h (Nat.succ_ne_zero _)) | (intro h; exact absurd h (Nat.not_lt_zero _))  | (exact (Nat.le_of_ble_eq_true rfl)) | (exact (by kernel_rfl : drawOk _ _ = true)) | refine ops_cons ?_ | refine ops_nil ?_ | refine opsD_cons ?_ | refine opsD_nil ?_ | refine any_step ?_ | refine any_nil ?_ | refine code_seq ?_ | refine code_region ?_ | refine code_cond ?_ | refine code_block ?_ | refine code_scope ?_ | refine code_skip ?_ | refine code_ret ?_ | refine code_exit ?_ | (refine And.intro ?_ ?_) | (intro h; first | exact Bool.noConfusion h | (simp at h; done) | simp at h | skip) | refine eqv_len_map ?_ | refine eqv_zero ?_ | refine eqv_wrap (by omega) (by omega) ?_ | refine eqv_to _ (set_map rfl rfl) ?_ | refine ⟨_, _, (by first | rfl | assumption), at_map (by assumption), ?_⟩ | refine ⟨_, at_map (by assumption), (by decide), ?_⟩ | refine ⟨_, at_map (by assumption), ?_⟩ | (refine (?_ : _ ≤ 140737488355328); simp [rowsLen] <;> omega) | (refine (?_ : _ ≤ 9223372036854775807); simp [rowsLen] <;> omega) | (refine (?_ : _ = rowsLen _); simp [rowsLen] <;> omega) | refine eqv_to _ (app_row rfl) (eqv_to _ app_len ?_) | refine eqv_to _ (app_first rfl) (eqv_to 1 rfl ?_) | refine idx_sl (at_map (by assumption)) (by omega) ?_ | refine idx_ms _ (by first | rfl | assumption) (by first | assumption | omega) ?_ | fail)
    have hfe := hS.feas g hp
    have hsg : ∀ v : Nat, v < i → 0 < exc (n.es.zip f) v → (sx x).getD v false = true := fun v hv h => by
      rw [sx_get, hxg v hv]; simpa using h
    have hv1 : 0 < exc (n.es.zip f) v0 := by
      rw [sx_get, hxg v0 hv0] at hs0; simpa using hs0
    refine code_loop (fun X : Nat × Int => ⟨[(56, vint .i64 X.1), (55, vint .i64 i), (54, .ms 2 1 0 i), (9, vint .i64 X.2), (8, .ms 5 2 0 i), (3, .ms 3 1 0 i), (4, .ms 4 1 0 i), (0, .ptr 0 5 0 0)],
      [wO n i A, iO f, iO x, iO c', bO s', byO b']⟩)
      (fun X => X.1 ≤ i ∧ ((X.2 = -1 ∧ ∀ v, v < X.1 → x.getD v 0 < 0 → s'.getD v false = false) ∨ ∃ k : Nat, X.2 = ↑k ∧ k < X.1 ∧ x.getD k 0 < 0 ∧ s'.getD k false = true)) (fun X => i - X.1)
      ⟨(0, -1), ⟨Nat.zero_le _, .inl ⟨rfl, fun v hv => absurd hv (Nat.not_lt_zero v)⟩⟩, ⟨[0, 1, 2, 3, 4, 5], rfl, rfl, And.intro rfl (And.intro rfl (And.intro rfl (And.intro rfl (And.intro rfl (And.intro rfl trivial))))), rfl, rfl, rfl, rfl, rfl, rfl, rfl, rfl, trivial⟩⟩ ?_
    rintro ⟨j, t⟩ ⟨hj, ht⟩
    dsimp only at hj ht ⊢
    have hxj : j < i → x[j]? = some (x.getD j 0) := fun h => of_getD 0 (by omega)
    have hsj : j < i → s'[j]? = some (s'.getD j false) := fun h => of_getD false (by rw [hS.ls]; exact h)
    have hcj : j < i → c'[j]? = some (c'.getD j 0) := fun h => of_getD 0 (by rw [hS.lc]; exact h)
    rcases ht with ⟨rfl, ht⟩ | ⟨k, rfl, hkj, hk1, hk2⟩
    · repeat' (first | (exact (rfl : allOne _ = true)) | exact trivial | (refine (?_ : _ ≠ _); omega) | (refine (?_ : srcLen _ = rowsLen _); rfl) | (intro h; exact absurd h (Nat.succ_ne_zero _)) | (intro h; exact absurd h (Nat.not_lt_zero _))  | (exact (Nat.le_of_ble_eq_true rfl)) | (exact (by kernel_rfl : drawOk _ _ = true)) | refine ops_cons ?_ | refine ops_nil ?_ | refine opsD_cons ?_ | refine opsD_nil ?_ | refine any_step ?_ | refine any_nil ?_ | refine code_seq ?_ | refine code_region ?_ | refine code_cond ?_ | refine code_block ?_ | refine code_scope ?_ | refine code_skip ?_ | refine code_ret ?_ | refine code_exit ?_ | (refine And.intro ?_ ?_) | (intro h; first | exact Bool.noConfusion h | (simp at h; done) | simp at h | skip) | refine eqv_len_map ?_ | refine eqv_zero ?_ | refine eqv_wrap (by omega) (by omega) ?_ | refine eqv_to _ (set_map rfl rfl) ?_ | refine ⟨_, _, (by first | rfl | assumption), at_map (by assumption), ?_⟩ | refine ⟨_, at_map (by assumption), (by decide), ?_⟩ | refine ⟨_, at_map (by assumption), ?_⟩ | (refine (?_ : _ ≤ 140737488355328); simp [rowsLen] <;> omega) | (refine (?_ : _ ≤ 9223372036854775807); simp [rowsLen] <;> omega) | (refine (?_ : _ = rowsLen _); simp [rowsLen] <;> omega) | refine eqv_to _ (app_row rfl) (eqv_to _ app_len ?_) | refine eqv_to _ (app_first rfl) (eqv_to 1 rfl ?_) | refine idx_sl (at_map (by assumption)) (by omega) ?_ | refine idx_ms _ (by first | rfl | assumption) (by first | assumption | omega) ?_ | fail)
      · have h := h
        have hxj := hxj h
        have hsj := hsj h
        have hcj := hcj h
        generalize hex : x.getD j 0 = xj at *
        generalize hes : s'.getD j false = sj at *
        generalize c'.getD j 0 = cj at *
        repeat' (first | (exact (rfl : allOne _ = true)) | exact trivial | (refine (?_ : _ ≠ _); omega) | (refine (?_ : srcLen _ = rowsLen _); rfl) | (intro h; exact absurd h (Nat.succ_ne_zero _)) | (intro h; exact absurd h (Nat.not_lt_zero _))  | (exact (Nat.le_of_ble_eq_true rfl)) | (exact (by kernel_rfl : drawOk _ _ = true)) | refine ops_cons ?_ | refine ops_nil ?_ | refine opsD_cons ?_ | refine opsD_nil ?_ | refine any_step ?_ | refine any_nil ?_ | refine code_seq ?_ | refine code_region ?_ | refine code_cond ?_ | refine code_block ?_ | refine code_scope ?_ | refine code_skip ?_ | refine code_ret ?_ | refine code_exit ?_ | (refine And.intro ?_ ?_) | (intro h; first | exact Bool.noConfusion h | (simp at h; done) | simp at h | skip) | refine eqv_len_map ?_ | refine eqv_zero ?_ | refine eqv_wrap (by omega) (by omega) ?_ | refine eqv_to _ (set_map rfl rfl) ?_ | refine ⟨_, _, (by first | rfl | assumption), at_map (by assumption), ?_⟩ | refine ⟨_, at_map (by assumption), (by decide), ?_⟩ | refine ⟨_, at_map (by assumption), ?_⟩ | (refine (?_ : _ ≤ 140737488355328); simp [rowsLen] <;> omega) | (refine (?_ : _ ≤ 9223372036854775807); simp [rowsLen] <;> omega) | (refine (?_ : _ = rowsLen _); simp [rowsLen] <;> omega) | refine eqv_to _ (app_row rfl) (eqv_to _ app_len ?_) | refine eqv_to _ (app_first rfl) (eqv_to 1 rfl ?_) | refine idx_sl (at_map (by assumption)) (by omega) ?_ | refine idx_ms _ (by first | rfl | assumption) (by first | assumption | omega) ?_ | fail)
        · exact ⟨(j + 1, (j : Int)), ⟨by dsimp only; omega, .inr ⟨j, rfl, Nat.lt_succ_self j, by omega, by rw [hes]; assumption⟩⟩, by dsimp only; omega, ⟨[0, 1, 2, 3, 4, 5], rfl, rfl, And.intro rfl (And.intro rfl (And.intro rfl (And.intro rfl (And.intro rfl (And.intro rfl trivial))))), rfl, rfl, rfl, rfl, rfl, rfl, rfl, rfl, trivial⟩⟩
        · exact ⟨(j + 1, -1), ⟨by dsimp only; omega, .inl ⟨rfl, fun v hv hx => (Nat.lt_succ_iff_lt_or_eq.1 hv).elim (fun k => ht v k hx) fun k => by subst k; first | (rw [hes]; assumption) | (exfalso; omega)⟩⟩, by dsimp only; omega, ⟨[0, 1, 2, 3, 4, 5], rfl, rfl, And.intro rfl (And.intro rfl (And.intro rfl (And.intro rfl (And.intro rfl (And.intro rfl trivial))))), rfl, rfl, rfl, rfl, rfl, rfl, rfl, rfl, trivial⟩⟩
        · exact ⟨(j + 1, -1), ⟨by dsimp only; omega, .inl ⟨rfl, fun v hv hx => (Nat.lt_succ_iff_lt_or_eq.1 hv).elim (fun k => ht v k hx) fun k => by subst k; first | (rw [hes]; assumption) | (exfalso; omega)⟩⟩, by dsimp only; omega, ⟨[0, 1, 2, 3, 4, 5], rfl, rfl, And.intro rfl (And.intro rfl (And.intro rfl (And.intro rfl (And.intro rfl (And.intro rfl trivial))))), rfl, rfl, rfl, rfl, rfl, rfl, rfl, rfl, trivial⟩⟩
      · exact ret_obj [0, 1, 2, 4] [wO n i A, iO f, iO x, bO s'] rfl rfl (And.intro rfl (And.intro rfl (And.intro rfl (And.intro rfl trivial)))) (r' := .ms 3 1 0 i) rfl ⟨f, hf, ⟨p, hp⟩, .inr ⟨s', rfl, hS.stuck g hsg ⟨v0, hv0, hv1⟩ fun v hv hx => ht v (by omega) (by rw [hxg v hv]; exact hx), by rw [hxs]⟩⟩
    · have hck : c'[k]? = some (c'.getD k 0) := of_getD 0 (by rw [hS.lc]; omega)
      repeat' (first | (exact (rfl : allOne _ = true)) | exact trivial | (refine (?_ : _ ≠ _); omega) | (refine (?_ : srcLen _ = rowsLen _); rfl) | (intro h; exact absurd h (Nat.succ_ne_zero _)) | (intro h; exact absurd h (Nat.not_lt_zero _))  | (exact (Nat.le_of_ble_eq_true rfl)) | (exact (by kernel_rfl : drawOk _ _ = true)) | refine ops_cons ?_ | refine ops_nil ?_ | refine opsD_cons ?_ | refine opsD_nil ?_ | refine any_step ?_ | refine any_nil ?_ | refine code_seq ?_ | refine code_region ?_ | refine code_cond ?_ | refine code_block ?_ | refine code_scope ?_ | refine code_skip ?_ | refine code_ret ?_ | refine code_exit ?_ | (refine And.intro ?_ ?_) | (intro h; first | exact Bool.noConfusion h | (simp at h; done) | simp at h | skip) | refine eqv_len_map ?_ | refine eqv_zero ?_ | refine eqv_wrap (by omega) (by omega) ?_ | refine eqv_to _ (set_map rfl rfl) ?_ | refine ⟨_, _, (by first | rfl | assumption), at_map (by assumption), ?_⟩ | refine ⟨_, at_map (by assumption), (by decide), ?_⟩ | refine ⟨_, at_map (by assumption), ?_⟩ | (refine (?_ : _ ≤ 140737488355328); simp [rowsLen] <;> omega) | (refine (?_ : _ ≤ 9223372036854775807); simp [rowsLen] <;> omega) | (refine (?_ : _ = rowsLen _); simp [rowsLen] <;> omega) | refine eqv_to _ (app_row rfl) (eqv_to _ app_len ?_) | refine eqv_to _ (app_first rfl) (eqv_to 1 rfl ?_) | refine idx_sl (at_map (by assumption)) (by omega) ?_ | refine idx_ms _ (by first | rfl | assumption) (by first | assumption | omega) ?_ | fail)
      · have h := h
        have hxj := hxj h
        have hsj := hsj h
        have hcj := hcj h
        generalize hex : x.getD j 0 = xj at *
        generalize hes : s'.getD j false = sj at *
        generalize c'.getD j 0 = cj at *
        generalize c'.getD k 0 = ck at *
        repeat' (first | (exact (rfl : allOne _ = true)) | exact trivial | (refine (?_ : _ ≠ _); omega) | (refine (?_ : srcLen _ = rowsLen _); rfl) | (intro h; exact absurd h (Nat.succ_ne_zero _)) | (intro h; exact absurd h (Nat.not_lt_zero _))  | (exact (Nat.le_of_ble_eq_true rfl)) | (exact (by kernel_rfl : drawOk _ _ = true)) | refine ops_cons ?_ | refine ops_nil ?_ | refine opsD_cons ?_ | refine opsD_nil ?_ | refine any_step ?_ | refine any_nil ?_ | refine code_seq ?_ | refine code_region ?_ | refine code_cond ?_ | refine code_block ?_ | refine code_scope ?_ | refine code_skip ?_ | refine code_ret ?_ | refine code_exit ?_ | (refine And.intro ?_ ?_) | (intro h; first | exact Bool.noConfusion h | (simp at h; done) | simp at h | skip) | refine eqv_len_map ?_ | refine eqv_zero ?_ | refine eqv_wrap (by omega) (by omega) ?_ | refine eqv_to _ (set_map rfl rfl) ?_ | refine ⟨_, _, (by first | rfl | assumption), at_map (by assumption), ?_⟩ | refine ⟨_, at_map (by assumption), (by decide), ?_⟩ | refine ⟨_, at_map (by assumption), ?_⟩ | (refine (?_ : _ ≤ 140737488355328); simp [rowsLen] <;> omega) | (refine (?_ : _ ≤ 9223372036854775807); simp [rowsLen] <;> omega) | (refine (?_ : _ = rowsLen _); simp [rowsLen] <;> omega) | refine eqv_to _ (app_row rfl) (eqv_to _ app_len ?_) | refine eqv_to _ (app_first rfl) (eqv_to 1 rfl ?_) | refine idx_sl (at_map (by assumption)) (by omega) ?_ | refine idx_ms _ (by first | rfl | assumption) (by first | assumption | omega) ?_ | fail)
        · exact ⟨(j + 1, (j : Int)), ⟨by dsimp only; omega, .inr ⟨j, rfl, Nat.lt_succ_self j, by omega, by rw [hes]; assumption⟩⟩, by dsimp only; omega, ⟨[0, 1, 2, 3, 4, 5], rfl, rfl, And.intro rfl (And.intro rfl (And.intro rfl (And.intro rfl (And.intro rfl (And.intro rfl trivial))))), rfl, rfl, rfl, rfl, rfl, rfl, rfl, rfl, trivial⟩⟩
        all_goals exact ⟨(j + 1, (k : Int)), ⟨by dsimp only; omega, .inr ⟨k, rfl, Nat.lt_succ_of_lt hkj, hk1, hk2⟩⟩, by dsimp only; omega, ⟨[0, 1, 2, 3, 4, 5], rfl, rfl, And.intro rfl (And.intro rfl (And.intro rfl (And.intro rfl (And.intro rfl (And.intro rfl trivial))))), rfl, rfl, rfl, rfl, rfl, rfl, rfl, rfl, trivial⟩⟩
      · obtain ⟨p', hp', hpc⟩ := hfe
        obtain ⟨d, _, hd⟩ := hS.reach k (by omega) hk2
        obtain ⟨L, r, hw⟩ := hd.way
        have hbt : ∀ v (a : Arc), v < i → b'.getD v (0, false) = ((a.1 : Int), a.2) → a.1 < n.es.length ∧ 0 < arcRoom n.es f a ∧ arcTo n.es a = v ∧ s'.getD (arcFr n.es a) false = true ∧ c'.getD (arcFr n.es a) 0 + arcCo n.es a = c'.getD v 0 ∧ s'.getD v false = true := fun v a hv e => by
          cases hsv : s'.getD v false
          · have := (hS.new v hv hsv).1; rw [e] at this; simp only at this; omega
          · rcases hS.tight v hv hsv with ⟨q1, _⟩ | ⟨a', q1, q2, q3, q4, q5, q6⟩
            · rw [e] at q1; simp only at q1; omega
            · rw [e] at q1
              have : a = a' := Prod.ext (by injection q1 with q1 _; omega) (by injection q1 with _ q1)
              subst this
              exact ⟨q2, q3, q4, q5, q6, rfl⟩
        have hwk : k < i := by omega
        have hr : r < i := hw.lt g (fun v a hv e => (hbt v a hv e).1) hwk
        have hsr : s'.getD r false = true := by
          clear hd hkj hk1 hck
          induction hw with
          | root h => exact hk2
          | step h hr ih => exact ih (hbt _ _ hwk h).2.2.2.1 (g.arc (hbt _ _ hwk h).1).2.1 (by assumption)
        have hxr : 0 < exc (n.es.zip f) r := by
          have he := hw.end
          rcases hS.tight r hr hsr with ⟨_, q2, _⟩ | ⟨a', q1, _⟩
          · rw [sx_get, hxg r hr] at q2; simpa using q2
          · rw [q1] at he; simp only at he; omega
        rw [hxg k hwk] at hk1
        subst hxs
        refine call_obj [0, 1, 2, 5] [wO n i A, iO f, iO (sumsOf i (n.es.zip f)), byO b'] [.ptr 0 5 0 0, vint .i64 k, .ms 3 2 0 i] rfl ⟨rfl, rfl, rfl, rfl, trivial⟩ rfl (c_send g hf hp' hS.lb (fun v a hv e => by
          obtain ⟨q1, q2, q3, q4, q5, q6⟩ := hbt v a hv e
          refine ⟨q1, q2, ?_, q3⟩
          rw [q3, hpc v q6, hpc _ q4]; omega) hwk hw hk1 hxr) ?_
        rintro r' H' ⟨rfl, f', k', h0, h1, h2, h3, h4, h5, rfl⟩
        refine ⟨Nat.le_of_ble_eq_true rfl, ?_⟩
        repeat' (first | (exact (rfl : allOne _ = true)) | exact trivial | (refine (?_ : _ ≠ _); omega) | (refine (?_ : srcLen _ = rowsLen _); rfl) | (intro h; exact absurd h (Nat.succ_ne_zero _)) | (intro h; exact absurd h (Nat.not_lt_zero _))  | (exact (Nat.le_of_ble_eq_true rfl)) | (exact (by kernel_rfl : drawOk _ _ = true)) | refine ops_cons ?_ | refine ops_nil ?_ | refine opsD_cons ?_ | refine opsD_nil ?_ | refine any_step ?_ | refine any_nil ?_ | refine code_seq ?_ | refine code_region ?_ | refine code_cond ?_ | refine code_block ?_ | refine code_scope ?_ | refine code_skip ?_ | refine code_ret ?_ | refine code_exit ?_ | (refine And.intro ?_ ?_) | (intro h; first | exact Bool.noConfusion h | (simp at h; done) | simp at h | skip) | refine eqv_len_map ?_ | refine eqv_zero ?_ | refine eqv_wrap (by omega) (by omega) ?_ | refine eqv_to _ (set_map rfl rfl) ?_ | refine ⟨_, _, (by first | rfl | assumption), at_map (by assumption), ?_⟩ | refine ⟨_, at_map (by assumption), (by decide), ?_⟩ | refine ⟨_, at_map (by assumption), ?_⟩ | (refine (?_ : _ ≤ 140737488355328); simp [rowsLen] <;> omega) | (refine (?_ : _ ≤ 9223372036854775807); simp [rowsLen] <;> omega) | (refine (?_ : _ = rowsLen _); simp [rowsLen] <;> omega) | refine eqv_to _ (app_row rfl) (eqv_to _ app_len ?_) | refine eqv_to _ (app_first rfl) (eqv_to 1 rfl ?_) | refine idx_sl (at_map (by assumption)) (by omega) ?_ | refine idx_ms _ (by first | rfl | assumption) (by first | assumption | omega) ?_ | fail)
        have hne : r ≠ k := fun e => by subst e; omega
        exact ⟨f', ⟨h1, p', h2⟩, pot_lt hr hne h0 h3 h4 h5, ⟨[0, 1, 2], rfl, rfl, And.intro rfl (And.intro rfl (And.intro rfl trivial)), rfl, trivial⟩⟩
end Go.Proofs.Ytlhakdmenohdnaa.Cw

/-
  The theorems about flows: sums over nodes are sums over edges; blocked sides; weak duality; what Solve and Cut find.
-/
namespace Go.Proofs.Ytlhakdmenohdnaa.Cw
open Go.Cw Go.Proofs
set_option linter.unusedVariables false

def sumI (g : Nat → Int) : Nat → Int
  | 0 => 0
  | k + 1 => sumI g k + g k

theorem sumI_congr {g h : Nat → Int} : ∀ {N : Nat}, (∀ v, v < N → g v = h v) → sumI g N = sumI h N
  | 0, _ => rfl
  | N + 1, H => by simp only [sumI]; rw [sumI_congr fun v hv => H v (by omega), H N (by omega)]

theorem sumI_add (g h : Nat → Int) : ∀ N, sumI (fun v => g v + h v) N = sumI g N + sumI h N
  | 0 => rfl
  | N + 1 => by simp only [sumI]; rw [sumI_add g h N]; omega

theorem sumI_sub (g h : Nat → Int) : ∀ N, sumI (fun v => g v - h v) N = sumI g N - sumI h N
  | 0 => rfl
  | N + 1 => by simp only [sumI]; rw [sumI_sub g h N]; omega

theorem sumI_zero : ∀ N, sumI (fun _ => 0) N = 0
  | 0 => rfl
  | N + 1 => by simp only [sumI]; rw [sumI_zero N]; rfl

theorem sumI_single (p : Nat → Int) (f : Int) {a : Nat} : ∀ {N : Nat}, sumI (fun v => p v * (if (a : Int) = (v : Int) then f else 0)) N = if a < N then p a * f else 0
  | 0 => rfl
  | N + 1 => by
    simp only [sumI]
    rw [sumI_single p f (a := a) (N := N)]
    by_cases e : a = N
    · subst e
      rw [if_neg (Nat.lt_irrefl _), if_pos rfl, if_pos (Nat.lt_succ_self _)]; omega
    · have e2 : ¬ (a : Int) = (N : Int) := by omega
      rw [if_neg e2]
      by_cases h : a < N
      · rw [if_pos h, if_pos (by omega)]; omega
      · rw [if_neg h, if_neg (by omega)]; omega

theorem sumI_nonneg {g : Nat → Int} : ∀ {N : Nat}, (∀ v, v < N → 0 ≤ g v) → 0 ≤ sumI g N
  | 0, _ => Int.le_refl _
  | N + 1, h => by
    have := sumI_nonneg (N := N) fun v hv => h v (by omega)
    have := h N (by omega)
    simp only [sumI]; omega

theorem sumI_pos {g : Nat → Int} : ∀ {N : Nat}, (∀ v, v < N → 0 ≤ g v) → (∃ v, v < N ∧ 0 < g v) → 0 < sumI g N
  | 0, _, ⟨v, hv, _⟩ => absurd hv (Nat.not_lt_zero v)
  | N + 1, h, ⟨v, hv, hg⟩ => by
    have h1 := h N (by omega)
    simp only [sumI]
    by_cases e : v = N
    · subst e
      have := sumI_nonneg (N := v) fun w hw => h w (by omega)
      omega
    · have := sumI_pos (N := N) (fun w hw => h w (by omega)) ⟨v, by omega, hg⟩
      omega

/-- Nothing is above zero and the sum is zero. -/
theorem sumI_all0 {g : Nat → Int} : ∀ {N : Nat}, (∀ v, v < N → g v ≤ 0) → sumI g N = 0 → ∀ v, v < N → g v = 0 := fun {N} h h0 v hv => by
  have h1 := h v hv
  by_cases e : g v = 0
  · exact e
  · have := sumI_pos (g := fun w => 0 - g w) (N := N) (fun w hw => by have := h w hw; omega) ⟨v, hv, by show 0 < 0 - g v; omega⟩
    rw [sumI_sub, sumI_zero] at this
    omega

def wz (p : Nat → Int) : EF → Int
  | [] => 0
  | (e, f) :: r => wz p r + f * (p e.to.toNat - p e.fr.toNat)

theorem wz_eq (p : Nat → Int) {N : Nat} : ∀ {z : EF}, (∀ x ∈ z, 0 ≤ x.1.fr ∧ x.1.fr < N ∧ 0 ≤ x.1.to ∧ x.1.to < N) → sumI (fun v => p v * exc z v) N = wz p z
  | [], _ => by simp only [exc, wz, Int.mul_zero]; exact sumI_zero N
  | (e, f) :: z, h => by
    obtain ⟨h1, h2, h3, h4⟩ := h (e, f) (by simp)
    simp only at h1 h2 h3 h4
    obtain ⟨a, ha⟩ := Int.eq_ofNat_of_zero_le h3
    obtain ⟨b, hb⟩ := Int.eq_ofNat_of_zero_le h1
    have ih := wz_eq p (N := N) (z := z) fun x hx => h x (by simp [hx])
    simp only [exc, wz, ha, hb]
    rw [sumI_congr (h := fun v => p v * exc z v + p v * (if (a : Int) = (v : Int) then f else 0) - p v * (if (b : Int) = (v : Int) then f else 0)) fun v _ => by
      rw [Int.mul_sub, Int.mul_add]]
    rw [sumI_sub (fun v => p v * exc z v + p v * (if (a : Int) = (v : Int) then f else 0)), sumI_add, ih, sumI_single, sumI_single, if_pos (by omega), if_pos (by omega)]
    simp only [Int.toNat_natCast]
    rw [Int.mul_sub, Int.mul_comm f, Int.mul_comm f]; omega

section
variable {n : Net} {N : Nat}

theorem zip_ends (hv : validR n = 0) (hN : n.nodes = ↑N) (l : List Int) : ∀ x ∈ n.es.zip l, 0 ≤ x.1.fr ∧ x.1.fr < N ∧ 0 ≤ x.1.to ∧ x.1.to < N := fun x hx => by
  obtain ⟨v1, v2, v3, v4⟩ := valid_spec hv
  have := v4 x.1 (List.of_mem_zip hx).1
  rw [hN] at this
  simp [soundB] at this
  omega

theorem balP_spec {l : List Int} (h : balB n l = true) : validR n = 0 ∧ l.length = n.es.length ∧ (∀ x ∈ n.es.zip l, x.1.ls ≤ x.2 ∧ x.2 ≤ x.1.mo) ∧ ∀ v : Nat, (v : Int) < n.nodes → exc (n.es.zip l) v = 0 := by
  simp only [balB, Bool.and_eq_true, decide_eq_true_eq, List.all_eq_true] at h
  obtain ⟨h1, h2, h3, h4⟩ := h
  refine ⟨h1, h2, fun x hx => by simpa [inB] using h3 x hx, fun v hv => ?_⟩
  exact h4 _ (List.mem_map.2 ⟨v, List.mem_range.2 (by omega), rfl⟩)

theorem bal_of {l : List Int} (h1 : validR n = 0) (h2 : l.length = n.es.length) (h3 : ∀ x ∈ n.es.zip l, x.1.ls ≤ x.2 ∧ x.2 ≤ x.1.mo) (h4 : ∀ v : Nat, (v : Int) < n.nodes → exc (n.es.zip l) v = 0) : balB n l = true := by
  simp only [balB, Bool.and_eq_true, decide_eq_true_eq, List.all_eq_true]
  refine ⟨h1, h2, fun x hx => by simpa [inB] using h3 x hx, fun x hx => ?_⟩
  obtain ⟨v, hv, rfl⟩ := List.mem_map.1 hx
  exact h4 v (by have := List.mem_range.1 hv; omega)

/-- What is weighed by prices of a flow is nothing. -/
theorem bal_wz {l : List Int} (h : balB n l = true) (p : Nat → Int) : wz p (n.es.zip l) = 0 := by
  obtain ⟨h1, h2, h3, h4⟩ := balP_spec h
  have hn := (valid_spec h1).1
  have hN : n.nodes = ↑n.nodes.toNat := by omega
  rw [← wz_eq p (zip_ends h1 hN l), sumI_congr (h := fun _ => 0) fun v hv => by rw [h4 v (by omega), Int.mul_zero], sumI_zero]

def ind (s : List Bool) (v : Nat) : Int := if s.getD v false = true then 1 else 0

theorem side_le (s : List Bool) : ∀ {es : List Edge} {l : List Int}, l.length = es.length → (∀ x ∈ es.zip l, x.1.ls ≤ x.2 ∧ x.2 ≤ x.1.mo) → wz (ind s) (es.zip l) ≤ sumE (sideI s) es - sumE (sideO s) es
  | [], _, _, _ => by simp [wz, sumE]
  | e :: es, [], h, _ => by simp at h
  | e :: es, f :: l, h, hb => by
    have ih := side_le s (es := es) (l := l) (by simpa using h) fun x hx => hb x (by simp [hx])
    have h1 := hb (e, f) (by simp)
    simp only at h1
    simp only [List.zip_cons_cons, wz, sumE, sideI, sideO, ind]
    cases e1 : s.getD e.fr.toNat false <;> cases e2 : s.getD e.to.toNat false <;> simp <;> omega

/-- Where a side is blocked, nothing is a flow. -/
theorem blk_bal {s : List Bool} {l : List Int} (h : blkB n s = true) : balB n l = false := by
  cases hb : balB n l
  · rfl
  · exfalso
    obtain ⟨h1, h2, h3, _⟩ := balP_spec hb
    have := side_le s h2 h3
    rw [bal_wz hb] at this
    simp only [blkB, Bool.and_eq_true, decide_eq_true_eq] at h
    omega
theorem GOk.ends {A : List (List Arc)} (g : GOk n N A) (l : List Int) : ∀ x ∈ n.es.zip l, 0 ≤ x.1.fr ∧ x.1.fr < N ∧ 0 ≤ x.1.to ∧ x.1.to < N := fun x hx => by
  obtain ⟨i, hi, e⟩ := List.getElem_of_mem (List.of_mem_zip hx).1
  obtain ⟨e', he', h⟩ := g.edge hi
  rw [List.getElem?_eq_getElem hi, e] at he'
  injection he' with he'
  rw [he']; omega

/-- An arc's room, edge by edge. -/
theorem FOk.edge {f : List Int} (hf : FOk n f) {i : Nat} {e : Edge} (he : n.es[i]? = some e) : f[i]? = some (f.getD i 0) ∧ arcRoom n.es f (i, false) = e.mo - f.getD i 0 ∧ arcRoom n.es f (i, true) = f.getD i 0 - e.ls ∧ e.ls ≤ f.getD i 0 ∧ f.getD i 0 ≤ e.mo := by
  have hi := (List.getElem?_eq_some_iff.1 he).1
  have h1 := hf.room (i, false) hi
  have h2 := hf.room (i, true) hi
  have k1 : arcRoom n.es f (i, false) = e.mo - f.getD i 0 := by unfold arcRoom; rw [he]; simp
  have k2 : arcRoom n.es f (i, true) = f.getD i 0 - e.ls := by unfold arcRoom; rw [he]; simp
  exact ⟨of_getD 0 (by rw [hf.len]; exact hi), k1, k2, by omega, by omega⟩

theorem FOk.zip {f : List Int} (hf : FOk n f) {x : Edge × Int} (hx : x ∈ n.es.zip f) : ∃ i : Nat, n.es[i]? = some x.1 ∧ x.2 = f.getD i 0 := by
  obtain ⟨i, hi⟩ := List.getElem?_of_mem hx
  obtain ⟨e, y⟩ := x
  rw [List.getElem?_zip_eq_some] at hi
  exact ⟨i, hi.1, (getD_of hi.2).symm⟩

/-- Nobody has too much: it is a flow. -/
theorem bal_le {A : List (List Arc)} {f : List Int} (hv : validR n = 0) (g : GOk n N A) (hf : FOk n f) (h : ∀ v : Nat, v < N → exc (n.es.zip f) v ≤ 0) : balB n f = true := by
  have hz := wz_eq (fun _ => 1) (g.ends f)
  have h0 : ∀ z : EF, wz (fun _ => 1) z = 0 := fun z => by induction z with
    | nil => rfl
    | cons x z ih => obtain ⟨e, y⟩ := x; simp only [wz, ih]; omega
  rw [h0, sumI_congr (h := fun v => exc (n.es.zip f) v) fun v _ => Int.one_mul _] at hz
  have hg := g.nodes
  refine bal_of hv hf.len (fun x hx => ?_) fun v hv => sumI_all0 h hz v (by omega)
  obtain ⟨i, h1, h2⟩ := hf.zip hx
  obtain ⟨_, _, _, h3, h4⟩ := hf.edge h1
  omega

/-- What the prices found say. -/
theorem opt_of {A : List (List Arc)} {f c : List Int} {b : List (Int × Bool)} {s : List Bool} (hv : validR n = 0) (g : GOk n N A) (hf : FOk n f) {p : Nat → Int} (hp : Feas n f p) (h : ∀ v : Nat, v < N → exc (n.es.zip f) v ≤ 0)
    (hS : Spread n N A f (fun v => (List.replicate N true).getD v false = true) c s b) : optB n f c = true := by
  have hN := g.len
  have all : ∀ v, v < N → s.getD v false = true := fun v hv => hS.src v hv (by simp [List.getD_eq_getElem?_getD, hv])
  simp only [optB, Bool.and_eq_true, decide_eq_true_eq, List.all_eq_true]
  refine ⟨bal_le hv g hf h, by rw [hS.lc, g.nodes], fun x hx => ?_, fun x hx => ?_⟩
  · obtain ⟨i, hi, rfl⟩ := List.getElem_of_mem hx
    have := hS.bound i (by rw [← hS.lc]; exact hi)
    rw [getD_of (List.getElem?_eq_getElem hi)] at this
    simp only [CM] at this
    simp [prB]; omega
  · obtain ⟨i, h1, h2⟩ := hf.zip hx
    obtain ⟨e, y⟩ := x
    simp only at h1 h2
    subst h2
    obtain ⟨_, k1, k2, k3, k4⟩ := hf.edge h1
    have hi := (List.getElem?_eq_some_iff.1 h1).1
    obtain ⟨a1, a2, _⟩ := g.arc (a := (i, false)) hi
    have ft : arcTo n.es (i, false) = e.to.toNat ∧ arcFr n.es (i, false) = e.fr.toNat ∧ arcCo n.es (i, false) = e.co ∧ arcTo n.es (i, true) = e.fr.toNat ∧ arcFr n.es (i, true) = e.to.toNat ∧ arcCo n.es (i, true) = -e.co := by
      simp [arcTo, arcFr, arcCo, h1]
    obtain ⟨t1, t2, t3, t4, t5, t6⟩ := ft
    rw [t1] at a1
    rw [t2] at a2
    refine decide_eq_true ?_
    simp only [redC]
    by_cases e1 : e.fr.toNat = e.to.toNat
    · have p1 := hp (i, false) hi
      have p2 := hp (i, true) hi
      rw [t1, t2, t3, k1, e1] at p1
      rw [t4, t5, t6, k2, e1] at p2
      rw [e1]
      omega
    · have p1 := hS.sat (i, false) hi (by rw [t1, t2]; exact e1) (by rw [t2]; exact all _ a2)
      have p2 := hS.sat (i, true) hi (by rw [t4, t5]; exact fun k => e1 k.symm) (by rw [t5]; exact all _ a1)
      unfold Sat at p1 p2
      rw [t1, t2, t3, k1] at p1
      rw [t4, t5, t6, k2] at p2
      constructor
      · intro hr
        by_cases q : 0 < f.getD i 0 - e.ls
        · have := (p2 q).2; omega
        · omega
      · intro hr
        by_cases q : 0 < e.mo - f.getD i 0
        · have := (p1 q).2; omega
        · omega

theorem side_ge (t : List Bool) : ∀ {es : List Edge} {l : List Int}, l.length = es.length → (∀ x ∈ es.zip l, (t.getD x.1.fr.toNat false = true → t.getD x.1.to.toNat false = false → x.2 = x.1.mo) ∧ (t.getD x.1.fr.toNat false = false → t.getD x.1.to.toNat false = true → x.2 = x.1.ls)) →
    ∀ s : List Bool, (∀ x ∈ es, s.getD x.fr.toNat false = !t.getD x.fr.toNat false ∧ s.getD x.to.toNat false = !t.getD x.to.toNat false) → wz (ind t) (es.zip l) = sumE (sideO s) es - sumE (sideI s) es
  | [], _, _, _, _, _ => by simp [wz, sumE]
  | e :: es, [], h, _, _, _ => by simp at h
  | e :: es, f :: l, h, hb, s, hs => by
    have ih := side_ge t (es := es) (l := l) (by simpa using h) (fun x hx => hb x (by simp [hx])) s fun x hx => hs x (by simp [hx])
    have h1 := hb (e, f) (by simp)
    have h2 := hs e (by simp)
    simp only at h1
    simp only [List.zip_cons_cons, wz, sumE, sideI, sideO, ind, ih, h2.1, h2.2]
    cases e1 : t.getD e.fr.toNat false <;> cases e2 : t.getD e.to.toNat false <;> rw [e1, e2] at h1 <;> simp at h1 ⊢ <;> omega

/-- The nodes from which nothing more can be sent away: their other side is blocked. -/
theorem blk_of {A : List (List Arc)} {f : List Int} {t : List Bool} (hv : validR n = 0) (g : GOk n N A) (hf : FOk n f) (hS : Stuck n N f t) : blkB n (t.map (!·)) = true := by
  have hg := g.nodes
  have hpos : 0 < sumI (fun v => ind t v * exc (n.es.zip f) v) N := by
    refine sumI_pos (fun v hv => ?_) ?_
    · unfold ind
      cases e : t.getD v false
      · simp
      · simp only [if_true, Int.one_mul]
        by_cases k : exc (n.es.zip f) v < 0
        · rw [hS.neg v hv k] at e; cases e
        · omega
    · obtain ⟨v, hv, hx⟩ := hS.some
      exact ⟨v, hv, by unfold ind; rw [hS.pos v hv hx]; simpa using hx⟩
  rw [wz_eq (ind t) (g.ends f)] at hpos
  have key := side_ge t (es := n.es) hf.len (fun x hx => by
    obtain ⟨i, h1, h2⟩ := hf.zip hx
    obtain ⟨e, y⟩ := x
    simp only at h1 h2 ⊢
    subst h2
    obtain ⟨_, k1, k2, k3, k4⟩ := hf.edge h1
    have hi := (List.getElem?_eq_some_iff.1 h1).1
    have c1 := hS.closed (i, false) hi
    have c2 := hS.closed (i, true) hi
    rw [k1] at c1
    rw [k2] at c2
    simp only [arcTo, arcFr, h1, Bool.false_eq_true, if_false, if_true] at c1 c2
    constructor
    · intro q1 q2
      by_cases k : 0 < e.mo - f.getD i 0
      · rw [c1 q1 k] at q2; cases q2
      · omega
    · intro q1 q2
      by_cases k : 0 < f.getD i 0 - e.ls
      · rw [c2 q2 k] at q1; cases q1
      · omega) (t.map (!·)) (fun e he => by
    obtain ⟨i, hi⟩ := List.getElem?_of_mem he
    obtain ⟨e', he', q1, q2, q3, q4, _⟩ := g.edge (List.getElem?_eq_some_iff.1 hi).1
    rw [hi] at he'; injection he' with he'; subst he'
    have hm : ∀ v, v < N → (t.map (!·)).getD v false = !t.getD v false := fun v hv => by
      have : v < t.length := by rw [hS.len]; exact hv
      simp [List.getD_eq_getElem?_getD, List.getElem?_map, List.getElem?_eq_getElem this]
    exact ⟨hm _ (by omega), hm _ (by omega)⟩)
  rw [key] at hpos
  simp only [blkB, Bool.and_eq_true, decide_eq_true_eq]
  exact ⟨hv, by rw [List.length_map, hS.len, hg], by omega⟩

theorem cost_le (q : List Int) : ∀ {es : List Edge} {l x : List Int}, l.length = es.length → x.length = es.length → (∀ y ∈ es.zip x, y.1.ls ≤ y.2 ∧ y.2 ≤ y.1.mo) → (∀ y ∈ es.zip l, tightB q y = true) →
    costZ (es.zip l) - wz (fun v => q.getD v 0) (es.zip l) ≤ costZ (es.zip x) - wz (fun v => q.getD v 0) (es.zip x)
  | [], _, _, _, _, _, _ => by simp [wz, costZ]
  | e :: es, [], _, h, _, _, _ => by simp at h
  | e :: es, f :: l, [], _, h, _, _ => by simp at h
  | e :: es, f :: l, g :: x, h1, h2, h3, h4 => by
    have ih := cost_le q (es := es) (l := l) (x := x) (by simpa using h1) (by simpa using h2) (fun y hy => h3 y (by simp [hy])) fun y hy => h4 y (by simp [hy])
    have k1 := h3 (e, g) (by simp)
    have k2 := of_decide_eq_true (h4 (e, f) (by simp))
    simp only [redC] at k1 k2
    simp only [List.zip_cons_cons, wz, costZ]
    have lin : ∀ y : Int, e.co * y - y * (q.getD e.to.toNat 0 - q.getD e.fr.toNat 0) = (e.co + q.getD e.fr.toNat 0 - q.getD e.to.toNat 0) * y := fun y => by
      rw [Int.sub_mul, Int.add_mul, Int.mul_sub, Int.mul_comm y, Int.mul_comm y]; omega
    have le : (e.co + q.getD e.fr.toNat 0 - q.getD e.to.toNat 0) * f ≤ (e.co + q.getD e.fr.toNat 0 - q.getD e.to.toNat 0) * g := by
      generalize e.co + q.getD e.fr.toNat 0 - q.getD e.to.toNat 0 = d at *
      rcases Int.lt_trichotomy d 0 with k | k | k
      · rw [k2.2 k]
        exact Int.mul_le_mul_of_nonpos_left (by omega) k1.2
      · subst k; simp
      · rw [k2.1 k]
        exact Int.mul_le_mul_of_nonneg_left k1.1 (by omega)
    have e1 := lin f
    have e2 := lin g
    omega

/-- Where prices show that a flow is the cheapest one, no other flow costs less. -/
theorem opt_le {f q x : List Int} (h : optB n f q = true) (hx : balB n x = true) : costZ (n.es.zip f) ≤ costZ (n.es.zip x) := by
  simp only [optB, Bool.and_eq_true, decide_eq_true_eq, List.all_eq_true] at h
  obtain ⟨hb, _, _, ht⟩ := h
  obtain ⟨_, h2, _, _⟩ := balP_spec hb
  obtain ⟨_, k2, k3, _⟩ := balP_spec hx
  have := cost_le q h2 k2 k3 ht
  rw [bal_wz hb, bal_wz hx] at this
  omega
end
end Go.Proofs.Ytlhakdmenohdnaa.Cw

/-
  What begin makes: the plain law.
-/
namespace Go.Proofs.Ytlhakdmenohdnaa.Cw
open Go.Cw Go.Proofs
set_option linter.unusedVariables false

def startF (e : Edge) : Int := if e.co < 0 then e.mo else e.ls

structure BInv (n : Net) (N i : Nat) (A : List (List Arc)) (f : List Int) : Prop where
  alen : A.length = N
  flen : f.length = n.es.length
  short : ∀ u, (A.getD u []).length ≤ 2 * i
  arcs : ∀ u a, a ∈ A.getD u [] → a.1 < i ∧ arcFr n.es a = u ∧ arcTo n.es a ≠ u
  every : ∀ a : Arc, a.1 < i → arcFr n.es a ≠ arcTo n.es a → a ∈ A.getD (arcFr n.es a) []
  flow : ∀ j e, j < i → n.es[j]? = some e → f.getD j 0 = startF e

theorem BInv.start {n : Net} {N : Nat} : BInv n N 0 (List.replicate N []) (List.replicate n.es.length 0) :=
  have h : ∀ u, (List.replicate N ([] : List Arc)).getD u [] = [] := fun u => by
    simp only [List.getD_eq_getElem?_getD, List.getElem?_replicate]; split <;> rfl
  ⟨by simp, by simp, fun u => (by rw [h]; exact Nat.zero_le _), fun u a ha => (by rw [h] at ha; exact absurd ha List.not_mem_nil), fun a ha => absurd ha (Nat.not_lt_zero _), fun j e hj => absurd hj (Nat.not_lt_zero _)⟩

section
variable {n : Net} {N i : Nat} {A : List (List Arc)} {f : List Int}

theorem BInv.flow' (h : BInv n N i A f) {e : Edge} (he : n.es[i]? = some e) : ∀ j e', j < i + 1 → n.es[j]? = some e' → (f.set i (startF e)).getD j 0 = startF e' := fun j e' hj he' => by
  have hl := (List.getElem?_eq_some_iff.1 he).1
  rw [getD_set]
  rcases Nat.lt_succ_iff_lt_or_eq.1 hj with k | k
  · rw [if_neg (fun e => by omega)]; exact h.flow j e' k he'
  · subst k; rw [if_pos ⟨rfl, by rw [h.flen]; exact hl⟩]
    rw [he] at he'; injection he' with he'; rw [he']

/-- An edge from a node to itself. -/
theorem BInv.self (h : BInv n N i A f) {e : Edge} (he : n.es[i]? = some e) (hs : e.fr = e.to) : BInv n N (i + 1) A (f.set i (startF e)) :=
  ⟨h.alen, by simp [h.flen], fun u => by have := h.short u; omega, fun u a ha => ⟨Nat.lt_succ_of_lt (h.arcs u a ha).1, (h.arcs u a ha).2⟩, fun a ha hne => by
    rcases Nat.lt_succ_iff_lt_or_eq.1 ha with k | k
    · exact h.every a k hne
    · exfalso; apply hne
      unfold arcFr arcTo; rw [k, he]; simp only [hs, ite_self], h.flow' he⟩

/-- Another edge. -/
theorem BInv.step (h : BInv n N i A f) {e : Edge} (he : n.es[i]? = some e) {a b : Nat} (ha : e.to = ↑a) (hb : e.fr = ↑b) (haN : a < N) (hbN : b < N) (hs : a ≠ b) :
    BInv n N (i + 1) ((A.set b (A.getD b [] ++ [(i, false)])).set a (A.getD a [] ++ [(i, true)])) (f.set i (startF e)) := by
  have hg : ∀ u, ((A.set b (A.getD b [] ++ [(i, false)])).set a (A.getD a [] ++ [(i, true)])).getD u [] = if a = u then A.getD u [] ++ [(i, true)] else if b = u then A.getD u [] ++ [(i, false)] else A.getD u [] := fun u => by
    rw [getD_set, getD_set, List.length_set, h.alen]
    simp only [haN, hbN, and_true]
    by_cases e1 : a = u
    · subst e1; simp
    · by_cases e2 : b = u
      · subst e2; simp [e1]
      · simp [e1, e2]
  have f1 : arcFr n.es (i, false) = b ∧ arcTo n.es (i, false) = a ∧ arcFr n.es (i, true) = a ∧ arcTo n.es (i, true) = b := by
    simp only [arcFr, arcTo, he, ha, hb, Int.toNat_natCast]; simp
  obtain ⟨q1, q2, q3, q4⟩ := f1
  refine ⟨by simp [h.alen], by simp [h.flen], fun u => ?_, fun u c hc => ?_, fun c hc hne => ?_, h.flow' he⟩
  · rw [hg]
    have := h.short u
    split
    · simp only [List.length_append, List.length_cons, List.length_nil]; omega
    · split
      · simp only [List.length_append, List.length_cons, List.length_nil]; omega
      · omega
  · rw [hg] at hc
    have old : c ∈ A.getD u [] → c.1 < i + 1 ∧ arcFr n.es c = u ∧ arcTo n.es c ≠ u := fun k => ⟨Nat.lt_succ_of_lt (h.arcs u c k).1, (h.arcs u c k).2⟩
    split at hc
    · rename_i e1
      rcases List.mem_append.1 hc with k | k
      · exact old k
      · simp only [List.mem_singleton] at k; subst k
        exact ⟨Nat.lt_succ_self _, by rw [q3, e1], by rw [q4, ← e1]; exact fun k => hs k.symm⟩
    · split at hc
      · rename_i e1 e2
        rcases List.mem_append.1 hc with k | k
        · exact old k
        · simp only [List.mem_singleton] at k; subst k
          exact ⟨Nat.lt_succ_self _, by rw [q1, e2], by rw [q2, ← e2]; exact hs⟩
      · exact old hc
  · rw [hg]
    rcases Nat.lt_succ_iff_lt_or_eq.1 hc with k | k
    · have := h.every c k hne
      split
      · exact List.mem_append_left _ this
      · split
        · exact List.mem_append_left _ this
        · exact this
    · obtain ⟨j, d⟩ := c
      simp only at k; subst k
      cases d
      · rw [q1, if_neg hs, if_pos rfl]; simp
      · rw [q3, if_pos rfl]; simp

theorem BInv.done (h : BInv n N n.es.length A f) (hv : validR n = 0) (hN : n.nodes = ↑N) : GOk n N A ∧ FOk n f ∧ Feas n f (fun _ => 0) := by
  obtain ⟨v1, v2, v3, v4⟩ := valid_spec hv
  have key : ∀ j, j < n.es.length → ∃ e : Edge, n.es[j]? = some e ∧ f.getD j 0 = startF e ∧ 0 ≤ e.ls ∧ e.ls ≤ e.mo ∧ e.mo ≤ 1000 := fun j hj => by
    have he : n.es[j]? = some n.es[j] := List.getElem?_eq_getElem hj
    have := v4 _ (List.getElem_mem hj)
    simp [soundB] at this
    exact ⟨_, he, h.flow j _ hj he, by omega, by omega, by omega⟩
  refine ⟨⟨hN, by omega, v3, v4, h.alen, h.short, h.arcs, h.every⟩, ⟨h.flen, fun a ha => ?_, fun j hj => ?_⟩, fun a ha hr => ?_⟩
  · obtain ⟨e, he, k1, k2, k3, k4⟩ := key a.1 ha
    unfold arcRoom; rw [he, k1]; simp only [startF]
    split <;> split <;> omega
  · obtain ⟨e, he, k1, k2, k3, k4⟩ := key j hj
    rw [k1]; unfold startF; split <;> omega
  · obtain ⟨e, he, k1, k2, k3, k4⟩ := key a.1 ha
    unfold arcRoom at hr; rw [he, k1] at hr; simp only [startF] at hr
    unfold arcCo; rw [he]; simp only
    split at hr <;> split at hr <;> simp_all <;> omega
end
end Go.Proofs.Ytlhakdmenohdnaa.Cw

/-
  begin: rows that are slices of their own.
-/
namespace Go.Proofs.Ytlhakdmenohdnaa.Cw
open Go.Cw Go.Proofs
set_option linter.unusedVariables false
set_option maxRecDepth 100000
set_option maxHeartbeats 4000000

/-- A row's slice, its object, and the cells of all rows; the first row's object has the number k. -/
def rowV (k : Nat) (l : List Arc) : AV := match l with
  | [] => .pv (.val (.slice none 0 0))
  | a :: l => .ms k 2 0 (a :: l).length
def rowO (l : List Arc) : Option AObj := match l with
  | [] => none
  | a :: l => some ⟨73, 2, false, .p ((a :: l).map encA)⟩
def cellsA (k : Nat) : List (List Arc) → List (List AV)
  | [] => []
  | l :: A => [rowV k l] :: cellsA (k + 1) A

theorem cellsA_len : ∀ (A : List (List Arc)) (k : Nat), (cellsA k A).length = A.length
  | [], _ => rfl
  | l :: A, k => by simp [cellsA, cellsA_len A (k + 1)]

theorem cellsA_get : ∀ (A : List (List Arc)) (k u : Nat), u < A.length → (cellsA k A)[u]? = some [rowV (k + u) (A.getD u [])]
  | [], _, _, h => by simp at h
  | l :: A, k, 0, _ => by simp [cellsA]
  | l :: A, k, u + 1, h => by
    simp only [cellsA, List.getElem?_cons_succ, List.getD_cons_succ]
    rw [cellsA_get A (k + 1) u (by simpa using h), Nat.add_right_comm]; rfl

theorem cellsA_nil (k : Nat) : ∀ N, cellsA k (List.replicate N []) = List.replicate N [.pv (.val (.slice none 0 0))]
  | 0 => rfl
  | N + 1 => by simp only [List.replicate_succ, cellsA, cellsA_nil (k + 1) N]; rfl

theorem rowsA_get (A : List (List Arc)) (u : Nat) (h : u < A.length) : (A.map rowO)[u]? = some (rowO (A.getD u [])) := by
  rw [List.getElem?_map, of_getD [] h]; rfl

theorem cellsA_far {k m : Nat} : ∀ (A : List (List Arc)) (k' : Nat), k + m ≤ k' → ∀ r ∈ cellsA k' A, farL k m r = true
  | [], _, _, r, hr => by simp [cellsA] at hr
  | l :: A, k', h, r, hr => by
    simp only [cellsA, List.mem_cons] at hr
    rcases hr with rfl | hr
    · cases l <;> simp [rowV, farL, far]
      exact .inr h
    · exact cellsA_far A (k' + 1) (by omega) r hr

theorem rowsA_far {k m : Nat} : ∀ (A : List (List Arc)) (k' : Nat), k + m ≤ k' → farH k m k' (A.map rowO)
  | [], _, _ => trivial
  | l :: A, k', h => by
    have ih := rowsA_far (k := k) (m := m) A (k' + 1) (by omega)
    cases l with
    | nil => exact ih
    | cons a l => exact ⟨.inr h, trivial, ih⟩

theorem cellsA_ren {d : Nat} {rn : List Nat} : ∀ (A : List (List Arc)) (k k' : Nat), (∀ j, j < A.length → rn.getD (k' + j) d = k + j) → (cellsA k' A).map (renL d rn) = cellsA k A
  | [], _, _, _ => rfl
  | l :: A, k, k', h => by
    have h0 := h 0 (by simp)
    simp only [Nat.add_zero] at h0
    simp only [cellsA, List.map_cons]
    rw [cellsA_ren A (k + 1) (k' + 1) fun j hj => by have := h (j + 1) (by simpa using hj); rw [show k' + 1 + j = k' + (j + 1) by omega, this]; omega]
    congr 1
    cases l with
    | nil => rfl
    | cons a l => simp only [rowV, renL, renC, h0]

theorem cellsA_get10 {A : List (List Arc)} {u : Nat} (h : u < A.length) : (cellsA 10 A)[u]? = some [rowV (u + 10) (A.getD u [])] := by
  rw [cellsA_get A 10 u h, Nat.add_comm]

/-- The renumbering behind an append to row b: the row's object was made as number 7. -/
theorem cellsA_ren7 {d : Nat} {rn : List Nat} {A : List (List Arc)} {b : Nat} {r : List Arc} (hb : b < A.length) (hr : r ≠ []) (h : ∀ j, j < A.length → j ≠ b → rn.getD (10 + j) d = 10 + j) (h7 : rn.getD (10 + b) d = 7) :
    (cellsA 10 (A.set b r)).map (renL d rn) = (cellsA 10 A).set b [.ms 7 2 0 r.length] := by
  apply List.ext_getElem?
  intro j
  rw [List.getElem?_map, List.getElem?_set, cellsA_len]
  by_cases hj : j < A.length
  · rw [cellsA_get _ _ _ (by simpa using hj), cellsA_get _ _ _ hj, getD_set]
    by_cases e : b = j
    · subst e
      rw [if_pos ⟨rfl, hj⟩, if_pos rfl, if_pos hj]
      cases r with
      | nil => exact absurd rfl hr
      | cons a l => simp only [Option.map_some, rowV, renL, renC, h7]
    · rw [if_neg (fun k => e k.1), if_neg e]
      simp only [Option.map_some]
      generalize A.getD j [] = l
      cases l with
      | nil => rfl
      | cons a l => simp only [rowV, renL, renC, h j hj (fun k => e k.symm)]
  · rw [List.getElem?_eq_none (by rw [cellsA_len]; simp; omega)]
    by_cases e : b = j
    · subst e; omega
    · rw [if_neg e, List.getElem?_eq_none (by rw [cellsA_len]; omega)]; rfl

theorem range_set_get {k N b x j : Nat} : ((List.range' k N).set b x)[j]? = if j < N then some (if b = j then x else k + j) else none := by
  rw [List.getElem?_set, List.length_range']
  by_cases e : b = j
  · subst e; simp
  · simp only [e, if_false]
    by_cases h : j < N
    · rw [if_pos h, List.getElem?_range' h, Nat.one_mul]
    · rw [if_neg h, List.getElem?_eq_none (by simp; omega)]

/-- What is renumbered: nothing, or row b's object; the numbers 5 .. 9 are free, or but for 5. -/
def rnB (N m b x : Nat) : List Nat := 0 :: 1 :: 2 :: 3 :: 4 :: m :: (11 + N) :: (12 + N) :: (13 + N) :: (14 + N) :: (List.range' 10 N).set b x

theorem rnB_get {N m b x d j : Nat} (hj : j < N) : (rnB N m b x).getD (10 + j) d = if b = j then x else 10 + j := by
  rw [Nat.add_comm 10 j, List.getD_eq_getElem?_getD]
  show (((List.range' 10 N).set b x)[j]?).getD d = _
  rw [range_set_get, if_pos hj, Nat.add_comm 10 j]; rfl

theorem set_nodup {N b x : Nat} (hx : x < 10 ∨ 10 + N ≤ x) : ((List.range' 10 N).set b x).Nodup := by
  rw [List.Nodup, List.pairwise_iff_getElem]
  intro i j hi hj hij e
  rw [List.length_set, List.length_range'] at hi hj
  have h1 := range_set_get (k := 10) (N := N) (b := b) (x := x) (j := i)
  have h2 := range_set_get (k := 10) (N := N) (b := b) (x := x) (j := j)
  rw [List.getElem?_eq_getElem (by simpa using hi), if_pos hi] at h1
  rw [List.getElem?_eq_getElem (by simpa using hj), if_pos hj] at h2
  injection h1 with h1
  injection h2 with h2
  rw [e] at h1
  rw [h1] at h2
  split at h2 <;> split at h2 <;> omega

theorem set_mem {N b x y : Nat} (h : y ∈ (List.range' 10 N).set b x) : y = x ∨ (10 ≤ y ∧ y < 10 + N) := by
  obtain ⟨j, hj⟩ := List.getElem?_of_mem h
  rw [range_set_get] at hj
  split at hj
  · injection hj with hj
    split at hj <;> omega
  · cases hj

theorem rnB_allD {N m b x : Nat} (hm : m = 5 ∨ m = 10 + N) (hx : x = 7 ∨ x = 15 + N) : allD (rnB N m b x) = true := by
  apply allD_of
  unfold rnB
  have h := set_nodup (N := N) (b := b) (x := x) (by omega)
  have hn : ∀ y, y ≠ x → (y < 10 ∨ 10 + N ≤ y) → y ∉ (List.range' 10 N).set b x := fun y h1 h2 h3 => by
    rcases set_mem h3 with e | e
    · exact h1 e
    · omega
  have h0 := hn 0 (by omega) (by omega)
  have h1 := hn 1 (by omega) (by omega)
  have h2 := hn 2 (by omega) (by omega)
  have h3 := hn 3 (by omega) (by omega)
  have h4 := hn 4 (by omega) (by omega)
  have h5 := hn m (by omega) (by omega)
  have h6 := hn (11 + N) (by omega) (by omega)
  have h7 := hn (12 + N) (by omega) (by omega)
  have h8 := hn (13 + N) (by omega) (by omega)
  have h9 := hn (14 + N) (by omega) (by omega)
  simp only [List.nodup_cons, List.mem_cons, not_or]
  refine ⟨⟨?_, ?_, ?_, ?_, ?_, ?_, ?_, ?_, ?_, h0⟩, ⟨?_, ?_, ?_, ?_, ?_, ?_, ?_, ?_, h1⟩, ⟨?_, ?_, ?_, ?_, ?_, ?_, ?_, h2⟩, ⟨?_, ?_, ?_, ?_, ?_, ?_, h3⟩, ⟨?_, ?_, ?_, ?_, ?_, h4⟩, ⟨?_, ?_, ?_, ?_, h5⟩, ⟨?_, ?_, ?_, h6⟩, ⟨?_, ?_, h7⟩, ⟨?_, h8⟩, h9, h⟩
  all_goals omega

theorem rnB_same {N m x : Nat} : ∀ j, j < N → ∀ d, (rnB N m N x).getD (10 + j) d = 10 + j := fun j hj d => by rw [rnB_get hj, if_neg (by omega)]

/-- The rows' objects are as before. -/
theorem rows_kept {N m x : Nat} {A : List (List Arc)} {T H : Heap} {d : Nat} (hA : A.length = N) (hT : A.map rowO = T) (hH : ∀ (j : Nat) o, T[j]? = some (some o) → H[j + 10]? = some (some o)) :
    kept H d (rnB N m N x) ((List.range' 10 N).set N x) (A.map rowO) := by
  refine kept_ids _ _ (by simp [hA]) fun j i o h1 h2 => ?_
  rw [range_set_get] at h1
  split at h1
  · rename_i hj
    rw [if_neg (by omega)] at h1
    injection h1 with h1; subst h1
    rw [Nat.add_comm 10 j, hH j o (by rw [← hT]; exact h2)]
    rw [List.getElem?_map, of_getD [] (by omega)] at h2
    simp only [Option.map_some, Option.some.injEq] at h2
    generalize A.getD j [] = l at h2
    cases l with
    | nil => cases h2
    | cons a l => injection h2 with h2; subst h2; rfl
  · cases h1

/-- Row b's object was made anew, as number 7. -/
theorem rows_kept7 {N m b : Nat} {A : List (List Arc)} {T H : Heap} {d : Nat} {r : List Arc} (hA : A.length = N) (hT : A.map rowO = T) (hb : b < N) (h7 : H[7]? = some (rowO r)) (hH : ∀ (j : Nat) o, j ≠ b → T[j]? = some (some o) → H[j + 10]? = some (some o)) :
    kept H d (rnB N m b 7) ((List.range' 10 N).set b 7) ((A.set b r).map rowO) := by
  have hO : ∀ l : List Arc, ∀ o, rowO l = some o → renO d (rnB N m b 7) o = o := fun l o h => by
    cases l with
    | nil => cases h
    | cons a l => injection h with h; subst h; rfl
  refine kept_ids _ _ (by simp [hA]) fun j i o h1 h2 => ?_
  rw [range_set_get] at h1
  rw [List.getElem?_map, List.getElem?_set] at h2
  split at h1
  · rename_i hj
    injection h1 with h1
    by_cases e : b = j
    · subst e
      rw [if_pos rfl] at h1; subst h1
      rw [if_pos rfl, if_pos (by omega)] at h2
      simp only [Option.map_some, Option.some.injEq] at h2
      rw [h7, h2, hO r o h2]
    · rw [if_neg e] at h1; subst h1
      rw [if_neg e] at h2
      rw [Nat.add_comm 10 j, hH j o (fun k => e k.symm) (by rw [← hT, List.getElem?_map]; exact h2)]
      rw [of_getD [] (by omega)] at h2
      simp only [Option.map_some, Option.some.injEq] at h2
      rw [hO _ o h2]
  · cases h1

/-- An append to a slice with an array of its own. -/
theorem app_ms {T : Tab} {t e : TypeId} {site id z off len size bytes esize ebytes : Nat} {agg eagg : Bool} {zero ezero : List PV} {etk : TK} {x : AV} {H : Heap} {K : AV → Upd → List Nat → Prop} {rx rr : Go.Cw.Rows} {rdx : List Nat} {o : AObj}
    (h1 : Cw.look T t = some ⟨size, bytes, agg, .slice e, zero⟩) (h2 : Cw.look T e = some ⟨esize, ebytes, eagg, etk, ezero⟩) (h3 : (srcOk esize x && Nat.blt 0 esize) = true) (h4 : srcRows H x = some (rx, rdx)) (h5 : H[id]? = some (some o)) (h6 : Nat.beq z esize = true)
    (h7 : (!o.fz && (Nat.beq o.ty e && Nat.beq o.z esize)) = true) (h8 : catRows (dropR off o.rows) rx = some rr)
    (h9 : off + len = rowsLen o.rows ∧ srcLen x = rowsLen rx ∧ rowsLen rr * ebytes ≤ 140737488355328 ∧ rowsLen rr ≤ 9223372036854775807 ∧ eqv rr fun rr => eqv (rowsLen rr) fun n => K (.ms site esize 0 n) [(id, none), (site, some ⟨e, esize, false, rr⟩)] (id :: rdx)) : vcAppend T t site (.ms id z off len) x H K := by
  unfold vcAppend
  simp only [h1, h2, h3, h4, h5, h6, h7, h8]
  exact h9

/-- The rows as pure values. -/
def rowP (l : List Arc) : PV := match l with
  | [] => .val (.slice none 0 0)
  | a :: l => .sl 2 ((a :: l).map encA)

theorem mapO_cons {α β : Type} {g : α → Option β} {x : α} {l : List α} {y : β} {ys : List β} (h1 : g x = some y) (h2 : mapO g l = some ys) : mapO g (x :: l) = some (y :: ys) := by
  simp only [mapO, h1, h2]

theorem rows_conv {H : Heap} : ∀ (A : List (List Arc)) (k : Nat), (∀ j, j < A.length → H[k + j]? = some (rowO (A.getD j []))) → mapO (mapO (convC H 4)) (cellsA k A) = some (A.map fun l => [rowP l])
  | [], _, _ => rfl
  | l :: A, k, h => by
    have h0 : H[k]? = some (rowO l) := h 0 (by simp)
    have ih := rows_conv A (k + 1) fun j hj => by
      have := h (j + 1) (by simpa using hj)
      rw [show k + 1 + j = k + (j + 1) by omega, this]; simp
    have hl : mapO (convC H 4) [rowV k l] = some [rowP l] := by
      cases l with
      | nil => rfl
      | cons a l =>
        simp only [rowV, mapO, convC, h0, rowO, rowP]
        simp [List.take_of_length_le]
    exact mapO_cons hl ih

theorem rows_ok {H : Heap} : ∀ (A : List (List Arc)) (k : Nat), (∀ j, j < A.length → H[k + j]? = some (rowO (A.getD j []))) → ∀ r ∈ cellsA k A, andL (okC H 4) r
  | [], _, _, r, hr => by simp [cellsA] at hr
  | l :: A, k, h, r, hr => by
    have h0 : H[k]? = some (rowO l) := h 0 (by simp)
    simp only [cellsA, List.mem_cons] at hr
    rcases hr with rfl | hr
    · cases l with
      | nil => trivial
      | cons a l =>
        simp only [rowV, andL, okC, h0, rowO]
        simp
    · exact rows_ok A (k + 1) (fun j hj => by
        have := h (j + 1) (by simpa using hj)
        rw [show k + 1 + j = k + (j + 1) by omega, this]; simp) r hr

theorem rows_ids {H : Heap} : ∀ (A : List (List Arc)) (k : Nat), (∀ j, j < A.length → H[k + j]? = some (rowO (A.getD j []))) → ∀ i, (i ∈ (cellsA k A).flatMap fun r => r.flatMap (idsC H 4)) → k ≤ i
  | [], _, _, i, hi => by simp [cellsA] at hi
  | l :: A, k, h, i, hi => by
    have h0 : H[k]? = some (rowO l) := h 0 (by simp)
    simp only [cellsA, List.flatMap_cons, List.mem_append] at hi
    rcases hi with hi | hi
    · cases l with
      | nil => simp [rowV, idsC] at hi
      | cons a l =>
        simp [rowV, idsC, h0, rowO] at hi
        omega
    · exact Nat.le_of_succ_le (rows_ids A (k + 1) (fun j hj => by
        have := h (j + 1) (by simpa using hj)
        rw [show k + 1 + j = k + (j + 1) by omega, this]; simp) i hi)

theorem rows_le : ∀ (A : List (List Arc)), PLeLL (A.map fun l => [rowP l]) (encAs A)
  | [] => trivial
  | l :: A => ⟨⟨by cases l with
      | nil => exact PLe.nil
      | cons a l => exact PLe.refl, trivial⟩, rows_le A⟩
end Go.Proofs.Ytlhakdmenohdnaa.Cw

/-
  Solve, given the contract of begin.
-/
namespace Go.Proofs.Ytlhakdmenohdnaa.Cw
open Go.Cw Go.Proofs
set_option linter.unusedVariables false
set_option maxRecDepth 100000
set_option maxHeartbeats 4000000

/-- What begin is to answer. -/
def BeginC : Prop := ∀ n : Net, validR n = 0 → ACall Try.prog 31 [encN n] [] (fun r H' => ∃ N A f, GOk n N A ∧ FOk n f ∧ Feas n f (fun _ => 0) ∧ r = .ptr 0 5 0 0 ∧ H' = [wO n N A, iO f, iO (sumsOf N (n.es.zip f))])

def nilS : AV := .pv (.val (.slice none 0 0))

theorem c_solve (hB : BeginC) (n : Net) : ACall Try.prog 19 [encN n] [] (fun r H' =>
    (validR n ≠ 0 ∧ r = .tup [nilS, nilS, vint .i64 (validR n)] ∧ H' = []) ∨
    (validR n = 0 ∧ ∃ N A f, GOk n N A ∧ FOk n f ∧
      ((∃ s, Stuck n N f s ∧ r = .tup [nilS, nilS, vint .i64 60] ∧ H' = []) ∨
       (∃ c b s, (∀ v : Nat, v < N → exc (n.es.zip f) v ≤ 0) ∧ (∃ p, Feas n f p) ∧ Spread n N A f (fun v => (List.replicate N true).getD v false = true) c s b ∧ r = .tup [.ms 0 1 0 n.es.length, .ms 1 1 0 N, vint .i64 0] ∧ H' = [iO f, iO c])))) := by
  refine acall_of tok mixed 43 rfl (fn := Try.f19) (c := Try.f19.body.getD .skip) (by kernel_rfl) (by kernel_rfl) (by kernel_rfl) rfl 0 rfl ?_
  repeat' (first | (exact (rfl : allOne _ = true)) | exact trivial | (refine (?_ : _ ≠ _); omega) | (refine (?_ : srcLen _ = rowsLen _); rfl) | (intro h; exact absurd h (Nat.succ_ne_zero _)) | (intro h; exact absurd h (Nat.not_lt_zero _))  | (exact (Nat.le_of_ble_eq_true rfl)) | (exact (by kernel_rfl : drawOk _ _ = true)) | refine ops_cons ?_ | refine ops_nil ?_ | refine opsD_cons ?_ | refine opsD_nil ?_ | refine any_step ?_ | refine any_nil ?_ | refine code_seq ?_ | refine code_region ?_ | refine code_cond ?_ | refine code_block ?_ | refine code_scope ?_ | refine code_skip ?_ | refine code_ret ?_ | refine code_exit ?_ | (refine And.intro ?_ ?_) | (intro h; first | exact Bool.noConfusion h | (simp at h; done) | simp at h | skip) | refine eqv_len_map ?_ | refine eqv_zero ?_ | refine eqv_wrap (by omega) (by omega) ?_ | refine eqv_to _ (set_map rfl rfl) ?_ | refine ⟨_, _, (by first | rfl | assumption), at_map (by assumption), ?_⟩ | refine ⟨_, at_map (by assumption), (by decide), ?_⟩ | refine ⟨_, at_map (by assumption), ?_⟩ | (refine (?_ : _ ≤ 140737488355328); simp [rowsLen] <;> omega) | (refine (?_ : _ ≤ 9223372036854775807); simp [rowsLen] <;> omega) | (refine (?_ : _ = rowsLen _); simp [rowsLen] <;> omega) | refine eqv_to _ (app_row rfl) (eqv_to _ app_len ?_) | refine eqv_to _ (app_first rfl) (eqv_to 1 rfl ?_) | refine idx_sl (at_map (by assumption)) (by omega) ?_ | refine idx_ms _ (by first | rfl | assumption) (by first | assumption | omega) ?_ | fail)
  change vcFun _ _ _ _ _; refine call_eq rfl (by repeat' (first | trivial | refine And.intro ?_ ?_)) ALeL.refl (c_valid n) rfl ?_
  repeat' (first | (exact (rfl : allOne _ = true)) | exact trivial | (refine (?_ : _ ≠ _); omega) | (refine (?_ : srcLen _ = rowsLen _); rfl) | (intro h; exact absurd h (Nat.succ_ne_zero _)) | (intro h; exact absurd h (Nat.not_lt_zero _))  | (exact (Nat.le_of_ble_eq_true rfl)) | (exact (by kernel_rfl : drawOk _ _ = true)) | refine ops_cons ?_ | refine ops_nil ?_ | refine opsD_cons ?_ | refine opsD_nil ?_ | refine any_step ?_ | refine any_nil ?_ | refine code_seq ?_ | refine code_region ?_ | refine code_cond ?_ | refine code_block ?_ | refine code_scope ?_ | refine code_skip ?_ | refine code_ret ?_ | refine code_exit ?_ | (refine And.intro ?_ ?_) | (intro h; first | exact Bool.noConfusion h | (simp at h; done) | simp at h | skip) | refine eqv_len_map ?_ | refine eqv_zero ?_ | refine eqv_wrap (by omega) (by omega) ?_ | refine eqv_to _ (set_map rfl rfl) ?_ | refine ⟨_, _, (by first | rfl | assumption), at_map (by assumption), ?_⟩ | refine ⟨_, at_map (by assumption), (by decide), ?_⟩ | refine ⟨_, at_map (by assumption), ?_⟩ | (refine (?_ : _ ≤ 140737488355328); simp [rowsLen] <;> omega) | (refine (?_ : _ ≤ 9223372036854775807); simp [rowsLen] <;> omega) | (refine (?_ : _ = rowsLen _); simp [rowsLen] <;> omega) | refine eqv_to _ (app_row rfl) (eqv_to _ app_len ?_) | refine eqv_to _ (app_first rfl) (eqv_to 1 rfl ?_) | refine idx_sl (at_map (by assumption)) (by omega) ?_ | refine idx_ms _ (by first | rfl | assumption) (by first | assumption | omega) ?_ | fail)
  · have h : validR n ≠ 0 := by assumption
    exact ret_obj [] [] rfl rfl trivial (r' := .tup [nilS, nilS, vint .i64 (validR n)]) rfl (.inl ⟨h, rfl, rfl⟩)
  have hv0 : validR n = 0 := by omega
  refine call_obj [] [] [encN n] rfl trivial rfl (hB n hv0) ?_
  rintro r H' ⟨N, A, f, g, hf, hp, rfl, rfl⟩
  refine ⟨Nat.zero_le _, ?_⟩
  repeat' (first | (exact (rfl : allOne _ = true)) | exact trivial | (refine (?_ : _ ≠ _); omega) | (refine (?_ : srcLen _ = rowsLen _); rfl) | (intro h; exact absurd h (Nat.succ_ne_zero _)) | (intro h; exact absurd h (Nat.not_lt_zero _))  | (exact (Nat.le_of_ble_eq_true rfl)) | (exact (by kernel_rfl : drawOk _ _ = true)) | refine ops_cons ?_ | refine ops_nil ?_ | refine opsD_cons ?_ | refine opsD_nil ?_ | refine any_step ?_ | refine any_nil ?_ | refine code_seq ?_ | refine code_region ?_ | refine code_cond ?_ | refine code_block ?_ | refine code_scope ?_ | refine code_skip ?_ | refine code_ret ?_ | refine code_exit ?_ | (refine And.intro ?_ ?_) | (intro h; first | exact Bool.noConfusion h | (simp at h; done) | simp at h | skip) | refine eqv_len_map ?_ | refine eqv_zero ?_ | refine eqv_wrap (by omega) (by omega) ?_ | refine eqv_to _ (set_map rfl rfl) ?_ | refine ⟨_, _, (by first | rfl | assumption), at_map (by assumption), ?_⟩ | refine ⟨_, at_map (by assumption), (by decide), ?_⟩ | refine ⟨_, at_map (by assumption), ?_⟩ | (refine (?_ : _ ≤ 140737488355328); simp [rowsLen] <;> omega) | (refine (?_ : _ ≤ 9223372036854775807); simp [rowsLen] <;> omega) | (refine (?_ : _ = rowsLen _); simp [rowsLen] <;> omega) | refine eqv_to _ (app_row rfl) (eqv_to _ app_len ?_) | refine eqv_to _ (app_first rfl) (eqv_to 1 rfl ?_) | refine idx_sl (at_map (by assumption)) (by omega) ?_ | refine idx_ms _ (by first | rfl | assumption) (by first | assumption | omega) ?_ | fail)
  refine call_obj [1, 2, 3] [wO n N A, iO f, iO (sumsOf N (n.es.zip f))] [.ptr 0 5 0 0] rfl ⟨rfl, rfl, rfl, trivial⟩ rfl (c_balance g hf hp) ?_
  clear hf hp
  rintro r H' ⟨f', hf, ⟨p', hp⟩, (⟨rfl, h0, rfl⟩ | ⟨s, rfl, hst, rfl⟩)⟩
  · refine ⟨Nat.le_of_ble_eq_true rfl, ?_⟩
    have hN := g.len
    have hN1 := valid_spec hv0
    have hN0 : 0 < N := by have := g.nodes; omega
    have hgn := g.nodes
    repeat' (first | (exact (rfl : allOne _ = true)) | exact trivial | (refine (?_ : _ ≠ _); omega) | (refine (?_ : srcLen _ = rowsLen _); rfl) | (intro h; exact absurd h (Nat.succ_ne_zero _)) | (intro h; exact absurd h (Nat.not_lt_zero _))  | (exact (Nat.le_of_ble_eq_true rfl)) | (exact (by kernel_rfl : drawOk _ _ = true)) | refine ops_cons ?_ | refine ops_nil ?_ | refine opsD_cons ?_ | refine opsD_nil ?_ | refine any_step ?_ | refine any_nil ?_ | refine code_seq ?_ | refine code_region ?_ | refine code_cond ?_ | refine code_block ?_ | refine code_scope ?_ | refine code_skip ?_ | refine code_ret ?_ | refine code_exit ?_ | (refine And.intro ?_ ?_) | (intro h; first | exact Bool.noConfusion h | (simp at h; done) | simp at h | skip) | refine eqv_len_map ?_ | refine eqv_zero ?_ | refine eqv_wrap (by omega) (by omega) ?_ | refine eqv_to _ (set_map rfl rfl) ?_ | refine ⟨_, _, (by first | rfl | assumption), at_map (by assumption), ?_⟩ | refine ⟨_, at_map (by assumption), (by decide), ?_⟩ | refine ⟨_, at_map (by assumption), ?_⟩ | (refine (?_ : _ ≤ 140737488355328); simp [rowsLen] <;> omega) | (refine (?_ : _ ≤ 9223372036854775807); simp [rowsLen] <;> omega) | (refine (?_ : _ = rowsLen _); simp [rowsLen] <;> omega) | refine eqv_to _ (app_row rfl) (eqv_to _ app_len ?_) | refine eqv_to _ (app_first rfl) (eqv_to 1 rfl ?_) | refine idx_sl (at_map (by assumption)) (by omega) ?_ | refine idx_ms _ (by first | rfl | assumption) (by first | assumption | omega) ?_ | fail)
    refine ⟨N, N, g.nodes, g.nodes, Nat.le_refl _, by omega, by omega, eqv_to (encS (List.replicate N 0)) (by simp [encS, ei]) ?_⟩
    repeat' (first | (exact (rfl : allOne _ = true)) | exact trivial | (refine (?_ : _ ≠ _); omega) | (refine (?_ : srcLen _ = rowsLen _); rfl) | (intro h; exact absurd h (Nat.succ_ne_zero _)) | (intro h; exact absurd h (Nat.not_lt_zero _))  | (exact (Nat.le_of_ble_eq_true rfl)) | (exact (by kernel_rfl : drawOk _ _ = true)) | refine ops_cons ?_ | refine ops_nil ?_ | refine opsD_cons ?_ | refine opsD_nil ?_ | refine any_step ?_ | refine any_nil ?_ | refine code_seq ?_ | refine code_region ?_ | refine code_cond ?_ | refine code_block ?_ | refine code_scope ?_ | refine code_skip ?_ | refine code_ret ?_ | refine code_exit ?_ | (refine And.intro ?_ ?_) | (intro h; first | exact Bool.noConfusion h | (simp at h; done) | simp at h | skip) | refine eqv_len_map ?_ | refine eqv_zero ?_ | refine eqv_wrap (by omega) (by omega) ?_ | refine eqv_to _ (set_map rfl rfl) ?_ | refine ⟨_, _, (by first | rfl | assumption), at_map (by assumption), ?_⟩ | refine ⟨_, at_map (by assumption), (by decide), ?_⟩ | refine ⟨_, at_map (by assumption), ?_⟩ | (refine (?_ : _ ≤ 140737488355328); simp [rowsLen] <;> omega) | (refine (?_ : _ ≤ 9223372036854775807); simp [rowsLen] <;> omega) | (refine (?_ : _ = rowsLen _); simp [rowsLen] <;> omega) | refine eqv_to _ (app_row rfl) (eqv_to _ app_len ?_) | refine eqv_to _ (app_first rfl) (eqv_to 1 rfl ?_) | refine idx_sl (at_map (by assumption)) (by omega) ?_ | refine idx_ms _ (by first | rfl | assumption) (by first | assumption | omega) ?_ | fail)
    have hrl : (List.replicate N true).length = N := by simp
    refine ⟨N, N, g.nodes, g.nodes, Nat.le_refl _, by omega, by omega, eqv_to (encB (w1 (List.replicate N true) N 0)) (by simp [encB, w1]) ?_⟩
    repeat' (first | (exact (rfl : allOne _ = true)) | exact trivial | (refine (?_ : _ ≠ _); omega) | (refine (?_ : srcLen _ = rowsLen _); rfl) | (intro h; exact absurd h (Nat.succ_ne_zero _)) | (intro h; exact absurd h (Nat.not_lt_zero _))  | (exact (Nat.le_of_ble_eq_true rfl)) | (exact (by kernel_rfl : drawOk _ _ = true)) | refine ops_cons ?_ | refine ops_nil ?_ | refine opsD_cons ?_ | refine opsD_nil ?_ | refine any_step ?_ | refine any_nil ?_ | refine code_seq ?_ | refine code_region ?_ | refine code_cond ?_ | refine code_block ?_ | refine code_scope ?_ | refine code_skip ?_ | refine code_ret ?_ | refine code_exit ?_ | (refine And.intro ?_ ?_) | (intro h; first | exact Bool.noConfusion h | (simp at h; done) | simp at h | skip) | refine eqv_len_map ?_ | refine eqv_zero ?_ | refine eqv_wrap (by omega) (by omega) ?_ | refine eqv_to _ (set_map rfl rfl) ?_ | refine ⟨_, _, (by first | rfl | assumption), at_map (by assumption), ?_⟩ | refine ⟨_, at_map (by assumption), (by decide), ?_⟩ | refine ⟨_, at_map (by assumption), ?_⟩ | (refine (?_ : _ ≤ 140737488355328); simp [rowsLen] <;> omega) | (refine (?_ : _ ≤ 9223372036854775807); simp [rowsLen] <;> omega) | (refine (?_ : _ = rowsLen _); simp [rowsLen] <;> omega) | refine eqv_to _ (app_row rfl) (eqv_to _ app_len ?_) | refine eqv_to _ (app_first rfl) (eqv_to 1 rfl ?_) | refine idx_sl (at_map (by assumption)) (by omega) ?_ | refine idx_ms _ (by first | rfl | assumption) (by first | assumption | omega) ?_ | fail)
    refine code_loop (fun i : Nat => ⟨[(27, vint .i64 i), (26, vint .i64 N), (3, .ms 4 1 0 N), (7, .ms 5 1 0 N), (6, .ptr 1 5 0 0)],
      [some ⟨24, 2, false, .box [.pv (ei n.nodes), .pv (.sl 5 (n.es.map encE))]⟩, some ⟨64, 5, false, .box [.pv (ei n.nodes), .pv (.sl 5 (n.es.map encE)), .ms 2 1 0 n.es.length, .ms 3 1 0 N, .pv (.sl 1 (encAs A))]⟩,
        iO f', iO (sumsOf N (n.es.zip f')), iO (List.replicate N 0), bO (w1 (List.replicate N true) N i)]⟩)
      (fun i => i ≤ N) (fun i => N - i) ⟨0, by omega, ⟨[0, 1, 2, 3, 4, 5], rfl, rfl, And.intro rfl (And.intro rfl (And.intro rfl (And.intro rfl (And.intro rfl (And.intro rfl trivial))))), rfl, rfl, rfl, rfl, rfl, trivial⟩⟩ ?_
    intro i hi
    repeat' (first | (exact (rfl : allOne _ = true)) | exact trivial | (refine (?_ : _ ≠ _); omega) | (refine (?_ : srcLen _ = rowsLen _); rfl) | (intro h; exact absurd h (Nat.succ_ne_zero _)) | (intro h; exact absurd h (Nat.not_lt_zero _))  | (exact (Nat.le_of_ble_eq_true rfl)) | (exact (by kernel_rfl : drawOk _ _ = true)) | refine ops_cons ?_ | refine ops_nil ?_ | refine opsD_cons ?_ | refine opsD_nil ?_ | refine any_step ?_ | refine any_nil ?_ | refine code_seq ?_ | refine code_region ?_ | refine code_cond ?_ | refine code_block ?_ | refine code_scope ?_ | refine code_skip ?_ | refine code_ret ?_ | refine code_exit ?_ | (refine And.intro ?_ ?_) | (intro h; first | exact Bool.noConfusion h | (simp at h; done) | simp at h | skip) | refine eqv_len_map ?_ | refine eqv_zero ?_ | refine eqv_wrap (by omega) (by omega) ?_ | refine eqv_to _ (set_map rfl rfl) ?_ | refine ⟨_, _, (by first | rfl | assumption), at_map (by assumption), ?_⟩ | refine ⟨_, at_map (by assumption), (by decide), ?_⟩ | refine ⟨_, at_map (by assumption), ?_⟩ | (refine (?_ : _ ≤ 140737488355328); simp [rowsLen] <;> omega) | (refine (?_ : _ ≤ 9223372036854775807); simp [rowsLen] <;> omega) | (refine (?_ : _ = rowsLen _); simp [rowsLen] <;> omega) | refine eqv_to _ (app_row rfl) (eqv_to _ app_len ?_) | refine eqv_to _ (app_first rfl) (eqv_to 1 rfl ?_) | refine idx_sl (at_map (by assumption)) (by omega) ?_ | refine idx_ms _ (by first | rfl | assumption) (by first | assumption | omega) ?_ | fail)
    · have hw := w1_get hrl h
      have hw1 := w1_step hrl h
      rw [show (List.replicate N true).getD i false = true from by simp [List.getD_eq_getElem?_getD, h]] at hw1
      repeat' (first | (exact (rfl : allOne _ = true)) | exact trivial | (refine (?_ : _ ≠ _); omega) | (refine (?_ : srcLen _ = rowsLen _); rfl) | (intro h; exact absurd h (Nat.succ_ne_zero _)) | (intro h; exact absurd h (Nat.not_lt_zero _))  | (exact (Nat.le_of_ble_eq_true rfl)) | (exact (by kernel_rfl : drawOk _ _ = true)) | refine ops_cons ?_ | refine ops_nil ?_ | refine opsD_cons ?_ | refine opsD_nil ?_ | refine any_step ?_ | refine any_nil ?_ | refine code_seq ?_ | refine code_region ?_ | refine code_cond ?_ | refine code_block ?_ | refine code_scope ?_ | refine code_skip ?_ | refine code_ret ?_ | refine code_exit ?_ | (refine And.intro ?_ ?_) | (intro h; first | exact Bool.noConfusion h | (simp at h; done) | simp at h | skip) | refine eqv_len_map ?_ | refine eqv_zero ?_ | refine eqv_wrap (by omega) (by omega) ?_ | refine eqv_to _ (set_map rfl rfl) ?_ | refine ⟨_, _, (by first | rfl | assumption), at_map (by assumption), ?_⟩ | refine ⟨_, at_map (by assumption), (by decide), ?_⟩ | refine ⟨_, at_map (by assumption), ?_⟩ | (refine (?_ : _ ≤ 140737488355328); simp [rowsLen] <;> omega) | (refine (?_ : _ ≤ 9223372036854775807); simp [rowsLen] <;> omega) | (refine (?_ : _ = rowsLen _); simp [rowsLen] <;> omega) | refine eqv_to _ (app_row rfl) (eqv_to _ app_len ?_) | refine eqv_to _ (app_first rfl) (eqv_to 1 rfl ?_) | refine idx_sl (at_map (by assumption)) (by omega) ?_ | refine idx_ms _ (by first | rfl | assumption) (by first | assumption | omega) ?_ | fail)
      refine ⟨i + 1, by omega, by omega, ?_⟩
      dsimp only
      rw [hw1]
      exact ⟨[0, 1, 2, 3, 4, 5], rfl, rfl, And.intro rfl (And.intro rfl (And.intro rfl (And.intro rfl (And.intro rfl (And.intro rfl trivial))))), rfl, rfl, rfl, rfl, rfl, trivial⟩
    · obtain rfl : i = N := by omega
      refine call_obj [1, 2, 3, 4, 5] [wO n i A, iO f', iO (sumsOf i (n.es.zip f')), iO (List.replicate i 0), bO (List.replicate i true)] [.ptr 0 5 0 0, .ms 3 1 0 i, .ms 4 1 0 i] rfl ⟨rfl, rfl, rfl, rfl, by rw [w1_end hrl]; rfl, trivial⟩ rfl
        (c_spread g hf hp (by simp [sumsOf]) hrl (by simp) (fun v hv => by simp [List.getD_eq_getElem?_getD, hv]) ⟨0, hN0, by simp [List.getD_eq_getElem?_getD, hN0]⟩) ?_
      rintro r H' ⟨c', s', b', hS, rfl, rfl⟩
      refine ⟨Nat.le_of_ble_eq_true rfl, ?_⟩
      repeat' (first | (exact (rfl : allOne _ = true)) | exact trivial | (refine (?_ : _ ≠ _); omega) | (refine (?_ : srcLen _ = rowsLen _); rfl) | (intro h; exact absurd h (Nat.succ_ne_zero _)) | (intro h; exact absurd h (Nat.not_lt_zero _))  | (exact (Nat.le_of_ble_eq_true rfl)) | (exact (by kernel_rfl : drawOk _ _ = true)) | refine ops_cons ?_ | refine ops_nil ?_ | refine opsD_cons ?_ | refine opsD_nil ?_ | refine any_step ?_ | refine any_nil ?_ | refine code_seq ?_ | refine code_region ?_ | refine code_cond ?_ | refine code_block ?_ | refine code_scope ?_ | refine code_skip ?_ | refine code_ret ?_ | refine code_exit ?_ | (refine And.intro ?_ ?_) | (intro h; first | exact Bool.noConfusion h | (simp at h; done) | simp at h | skip) | refine eqv_len_map ?_ | refine eqv_zero ?_ | refine eqv_wrap (by omega) (by omega) ?_ | refine eqv_to _ (set_map rfl rfl) ?_ | refine ⟨_, _, (by first | rfl | assumption), at_map (by assumption), ?_⟩ | refine ⟨_, at_map (by assumption), (by decide), ?_⟩ | refine ⟨_, at_map (by assumption), ?_⟩ | (refine (?_ : _ ≤ 140737488355328); simp [rowsLen] <;> omega) | (refine (?_ : _ ≤ 9223372036854775807); simp [rowsLen] <;> omega) | (refine (?_ : _ = rowsLen _); simp [rowsLen] <;> omega) | refine eqv_to _ (app_row rfl) (eqv_to _ app_len ?_) | refine eqv_to _ (app_first rfl) (eqv_to 1 rfl ?_) | refine idx_sl (at_map (by assumption)) (by omega) ?_ | refine idx_ms _ (by first | rfl | assumption) (by first | assumption | omega) ?_ | fail)
      exact ret_obj [2, 4] [iO f', iO c'] rfl rfl (And.intro rfl (And.intro rfl trivial)) (r' := .tup [.ms 0 1 0 n.es.length, .ms 1 1 0 i, vint .i64 0]) rfl (.inr ⟨hv0, i, A, f', g, hf, .inr ⟨c', b', s', h0, ⟨p', hp⟩, hS, rfl, rfl⟩⟩)
  · refine ⟨Nat.le_of_ble_eq_true rfl, ?_⟩
    repeat' (first | (exact (rfl : allOne _ = true)) | exact trivial | (refine (?_ : _ ≠ _); omega) | (refine (?_ : srcLen _ = rowsLen _); rfl) | (intro h; exact absurd h (Nat.succ_ne_zero _)) | (intro h; exact absurd h (Nat.not_lt_zero _))  | (exact (Nat.le_of_ble_eq_true rfl)) | (exact (by kernel_rfl : drawOk _ _ = true)) | refine ops_cons ?_ | refine ops_nil ?_ | refine opsD_cons ?_ | refine opsD_nil ?_ | refine any_step ?_ | refine any_nil ?_ | refine code_seq ?_ | refine code_region ?_ | refine code_cond ?_ | refine code_block ?_ | refine code_scope ?_ | refine code_skip ?_ | refine code_ret ?_ | refine code_exit ?_ | (refine And.intro ?_ ?_) | (intro h; first | exact Bool.noConfusion h | (simp at h; done) | simp at h | skip) | refine eqv_len_map ?_ | refine eqv_zero ?_ | refine eqv_wrap (by omega) (by omega) ?_ | refine eqv_to _ (set_map rfl rfl) ?_ | refine ⟨_, _, (by first | rfl | assumption), at_map (by assumption), ?_⟩ | refine ⟨_, at_map (by assumption), (by decide), ?_⟩ | refine ⟨_, at_map (by assumption), ?_⟩ | (refine (?_ : _ ≤ 140737488355328); simp [rowsLen] <;> omega) | (refine (?_ : _ ≤ 9223372036854775807); simp [rowsLen] <;> omega) | (refine (?_ : _ = rowsLen _); simp [rowsLen] <;> omega) | refine eqv_to _ (app_row rfl) (eqv_to _ app_len ?_) | refine eqv_to _ (app_first rfl) (eqv_to 1 rfl ?_) | refine idx_sl (at_map (by assumption)) (by omega) ?_ | refine idx_ms _ (by first | rfl | assumption) (by first | assumption | omega) ?_ | fail)
    exact ret_obj [] [] rfl rfl trivial (r' := .tup [nilS, nilS, vint .i64 60]) rfl (.inr ⟨hv0, N, A, f', g, hf, .inl ⟨s, hst, rfl, rfl⟩⟩)

theorem c_cut (hB : BeginC) (n : Net) : ACall Try.prog 21 [encN n] [] (fun r H' =>
    (validR n ≠ 0 ∧ r = .tup [nilS, vbool false] ∧ H' = []) ∨
    (validR n = 0 ∧ ∃ N A f, GOk n N A ∧ FOk n f ∧
      (((∀ v : Nat, v < N → exc (n.es.zip f) v ≤ 0) ∧ r = .tup [nilS, vbool false] ∧ H' = []) ∨
       (∃ s, Stuck n N f s ∧ r = .tup [.ms 0 1 0 N, vbool true] ∧ H' = [bO (s.map (!·))])))) := by
  refine acall_of tok mixed 33 rfl (fn := Try.f21) (c := Try.f21.body.getD .skip) (by kernel_rfl) (by kernel_rfl) (by kernel_rfl) rfl 0 rfl ?_
  repeat' (first | (exact (rfl : allOne _ = true)) | exact trivial | (refine (?_ : _ ≠ _); omega) | (refine (?_ : srcLen _ = rowsLen _); rfl) | (intro h; exact absurd h (Nat.succ_ne_zero _)) | (intro h; exact absurd h (Nat.not_lt_zero _))  | (exact (Nat.le_of_ble_eq_true rfl)) | (exact (by kernel_rfl : drawOk _ _ = true)) | refine ops_cons ?_ | refine ops_nil ?_ | refine opsD_cons ?_ | refine opsD_nil ?_ | refine any_step ?_ | refine any_nil ?_ | refine code_seq ?_ | refine code_region ?_ | refine code_cond ?_ | refine code_block ?_ | refine code_scope ?_ | refine code_skip ?_ | refine code_ret ?_ | refine code_exit ?_ | (refine And.intro ?_ ?_) | (intro h; first | exact Bool.noConfusion h | (simp at h; done) | simp at h | skip) | refine eqv_len_map ?_ | refine eqv_zero ?_ | refine eqv_wrap (by omega) (by omega) ?_ | refine eqv_to _ (set_map rfl rfl) ?_ | refine ⟨_, _, (by first | rfl | assumption), at_map (by assumption), ?_⟩ | refine ⟨_, at_map (by assumption), (by decide), ?_⟩ | refine ⟨_, at_map (by assumption), ?_⟩ | (refine (?_ : _ ≤ 140737488355328); simp [rowsLen] <;> omega) | (refine (?_ : _ ≤ 9223372036854775807); simp [rowsLen] <;> omega) | (refine (?_ : _ = rowsLen _); simp [rowsLen] <;> omega) | refine eqv_to _ (app_row rfl) (eqv_to _ app_len ?_) | refine eqv_to _ (app_first rfl) (eqv_to 1 rfl ?_) | refine idx_sl (at_map (by assumption)) (by omega) ?_ | refine idx_ms _ (by first | rfl | assumption) (by first | assumption | omega) ?_ | fail)
  change vcFun _ _ _ _ _; refine call_eq rfl (by repeat' (first | trivial | refine And.intro ?_ ?_)) ALeL.refl (c_valid n) rfl ?_
  repeat' (first | (exact (rfl : allOne _ = true)) | exact trivial | (refine (?_ : _ ≠ _); omega) | (refine (?_ : srcLen _ = rowsLen _); rfl) | (intro h; exact absurd h (Nat.succ_ne_zero _)) | (intro h; exact absurd h (Nat.not_lt_zero _))  | (exact (Nat.le_of_ble_eq_true rfl)) | (exact (by kernel_rfl : drawOk _ _ = true)) | refine ops_cons ?_ | refine ops_nil ?_ | refine opsD_cons ?_ | refine opsD_nil ?_ | refine any_step ?_ | refine any_nil ?_ | refine code_seq ?_ | refine code_region ?_ | refine code_cond ?_ | refine code_block ?_ | refine code_scope ?_ | refine code_skip ?_ | refine code_ret ?_ | refine code_exit ?_ | (refine And.intro ?_ ?_) | (intro h; first | exact Bool.noConfusion h | (simp at h; done) | simp at h | skip) | refine eqv_len_map ?_ | refine eqv_zero ?_ | refine eqv_wrap (by omega) (by omega) ?_ | refine eqv_to _ (set_map rfl rfl) ?_ | refine ⟨_, _, (by first | rfl | assumption), at_map (by assumption), ?_⟩ | refine ⟨_, at_map (by assumption), (by decide), ?_⟩ | refine ⟨_, at_map (by assumption), ?_⟩ | (refine (?_ : _ ≤ 140737488355328); simp [rowsLen] <;> omega) | (refine (?_ : _ ≤ 9223372036854775807); simp [rowsLen] <;> omega) | (refine (?_ : _ = rowsLen _); simp [rowsLen] <;> omega) | refine eqv_to _ (app_row rfl) (eqv_to _ app_len ?_) | refine eqv_to _ (app_first rfl) (eqv_to 1 rfl ?_) | refine idx_sl (at_map (by assumption)) (by omega) ?_ | refine idx_ms _ (by first | rfl | assumption) (by first | assumption | omega) ?_ | fail)
  · have h : validR n ≠ 0 := by assumption
    exact ret_obj [] [] rfl rfl trivial (r' := .tup [nilS, vbool false]) rfl (.inl ⟨h, rfl, rfl⟩)
  have hv0 : validR n = 0 := by omega
  refine call_obj [] [] [encN n] rfl trivial rfl (hB n hv0) ?_
  rintro r H' ⟨N, A, f, g, hf, hp, rfl, rfl⟩
  refine ⟨Nat.zero_le _, ?_⟩
  repeat' (first | (exact (rfl : allOne _ = true)) | exact trivial | (refine (?_ : _ ≠ _); omega) | (refine (?_ : srcLen _ = rowsLen _); rfl) | (intro h; exact absurd h (Nat.succ_ne_zero _)) | (intro h; exact absurd h (Nat.not_lt_zero _))  | (exact (Nat.le_of_ble_eq_true rfl)) | (exact (by kernel_rfl : drawOk _ _ = true)) | refine ops_cons ?_ | refine ops_nil ?_ | refine opsD_cons ?_ | refine opsD_nil ?_ | refine any_step ?_ | refine any_nil ?_ | refine code_seq ?_ | refine code_region ?_ | refine code_cond ?_ | refine code_block ?_ | refine code_scope ?_ | refine code_skip ?_ | refine code_ret ?_ | refine code_exit ?_ | (refine And.intro ?_ ?_) | (intro h; first | exact Bool.noConfusion h | (simp at h; done) | simp at h | skip) | refine eqv_len_map ?_ | refine eqv_zero ?_ | refine eqv_wrap (by omega) (by omega) ?_ | refine eqv_to _ (set_map rfl rfl) ?_ | refine ⟨_, _, (by first | rfl | assumption), at_map (by assumption), ?_⟩ | refine ⟨_, at_map (by assumption), (by decide), ?_⟩ | refine ⟨_, at_map (by assumption), ?_⟩ | (refine (?_ : _ ≤ 140737488355328); simp [rowsLen] <;> omega) | (refine (?_ : _ ≤ 9223372036854775807); simp [rowsLen] <;> omega) | (refine (?_ : _ = rowsLen _); simp [rowsLen] <;> omega) | refine eqv_to _ (app_row rfl) (eqv_to _ app_len ?_) | refine eqv_to _ (app_first rfl) (eqv_to 1 rfl ?_) | refine idx_sl (at_map (by assumption)) (by omega) ?_ | refine idx_ms _ (by first | rfl | assumption) (by first | assumption | omega) ?_ | fail)
  refine call_obj [1, 2, 3] [wO n N A, iO f, iO (sumsOf N (n.es.zip f))] [.ptr 0 5 0 0] rfl ⟨rfl, rfl, rfl, trivial⟩ rfl (c_balance g hf hp) ?_
  clear hf hp
  rintro r H' ⟨f', hf, ⟨p', hp⟩, (⟨rfl, h0, rfl⟩ | ⟨s, rfl, hst, rfl⟩)⟩
  · refine ⟨Nat.le_of_ble_eq_true rfl, ?_⟩
    repeat' (first | (exact (rfl : allOne _ = true)) | exact trivial | (refine (?_ : _ ≠ _); omega) | (refine (?_ : srcLen _ = rowsLen _); rfl) | (intro h; exact absurd h (Nat.succ_ne_zero _)) | (intro h; exact absurd h (Nat.not_lt_zero _))  | (exact (Nat.le_of_ble_eq_true rfl)) | (exact (by kernel_rfl : drawOk _ _ = true)) | refine ops_cons ?_ | refine ops_nil ?_ | refine opsD_cons ?_ | refine opsD_nil ?_ | refine any_step ?_ | refine any_nil ?_ | refine code_seq ?_ | refine code_region ?_ | refine code_cond ?_ | refine code_block ?_ | refine code_scope ?_ | refine code_skip ?_ | refine code_ret ?_ | refine code_exit ?_ | (refine And.intro ?_ ?_) | (intro h; first | exact Bool.noConfusion h | (simp at h; done) | simp at h | skip) | refine eqv_len_map ?_ | refine eqv_zero ?_ | refine eqv_wrap (by omega) (by omega) ?_ | refine eqv_to _ (set_map rfl rfl) ?_ | refine ⟨_, _, (by first | rfl | assumption), at_map (by assumption), ?_⟩ | refine ⟨_, at_map (by assumption), (by decide), ?_⟩ | refine ⟨_, at_map (by assumption), ?_⟩ | (refine (?_ : _ ≤ 140737488355328); simp [rowsLen] <;> omega) | (refine (?_ : _ ≤ 9223372036854775807); simp [rowsLen] <;> omega) | (refine (?_ : _ = rowsLen _); simp [rowsLen] <;> omega) | refine eqv_to _ (app_row rfl) (eqv_to _ app_len ?_) | refine eqv_to _ (app_first rfl) (eqv_to 1 rfl ?_) | refine idx_sl (at_map (by assumption)) (by omega) ?_ | refine idx_ms _ (by first | rfl | assumption) (by first | assumption | omega) ?_ | fail)
    exact ret_obj [] [] rfl rfl trivial (r' := .tup [nilS, vbool false]) rfl (.inr ⟨hv0, N, A, f', g, hf, .inl ⟨h0, rfl, rfl⟩⟩)
  · refine ⟨Nat.le_of_ble_eq_true rfl, ?_⟩
    have hN := g.len
    have hsl := hst.len
    have hrl : (s.map (!·)).length = N := by simp [hsl]
    repeat' (first | (exact (rfl : allOne _ = true)) | exact trivial | (refine (?_ : _ ≠ _); omega) | (refine (?_ : srcLen _ = rowsLen _); rfl) | (intro h; exact absurd h (Nat.succ_ne_zero _)) | (intro h; exact absurd h (Nat.not_lt_zero _))  | (exact (Nat.le_of_ble_eq_true rfl)) | (exact (by kernel_rfl : drawOk _ _ = true)) | refine ops_cons ?_ | refine ops_nil ?_ | refine opsD_cons ?_ | refine opsD_nil ?_ | refine any_step ?_ | refine any_nil ?_ | refine code_seq ?_ | refine code_region ?_ | refine code_cond ?_ | refine code_block ?_ | refine code_scope ?_ | refine code_skip ?_ | refine code_ret ?_ | refine code_exit ?_ | (refine And.intro ?_ ?_) | (intro h; first | exact Bool.noConfusion h | (simp at h; done) | simp at h | skip) | refine eqv_len_map ?_ | refine eqv_zero ?_ | refine eqv_wrap (by omega) (by omega) ?_ | refine eqv_to _ (set_map rfl rfl) ?_ | refine ⟨_, _, (by first | rfl | assumption), at_map (by assumption), ?_⟩ | refine ⟨_, at_map (by assumption), (by decide), ?_⟩ | refine ⟨_, at_map (by assumption), ?_⟩ | (refine (?_ : _ ≤ 140737488355328); simp [rowsLen] <;> omega) | (refine (?_ : _ ≤ 9223372036854775807); simp [rowsLen] <;> omega) | (refine (?_ : _ = rowsLen _); simp [rowsLen] <;> omega) | refine eqv_to _ (app_row rfl) (eqv_to _ app_len ?_) | refine eqv_to _ (app_first rfl) (eqv_to 1 rfl ?_) | refine idx_sl (at_map (by assumption)) (by omega) ?_ | refine idx_ms _ (by first | rfl | assumption) (by first | assumption | omega) ?_ | fail)
    refine ⟨N, N, g.nodes, g.nodes, Nat.le_refl _, by omega, by omega, eqv_to (encB (w1 (s.map (!·)) N 0)) (by simp [encB, w1]) ?_⟩
    repeat' (first | (exact (rfl : allOne _ = true)) | exact trivial | (refine (?_ : _ ≠ _); omega) | (refine (?_ : srcLen _ = rowsLen _); rfl) | (intro h; exact absurd h (Nat.succ_ne_zero _)) | (intro h; exact absurd h (Nat.not_lt_zero _))  | (exact (Nat.le_of_ble_eq_true rfl)) | (exact (by kernel_rfl : drawOk _ _ = true)) | refine ops_cons ?_ | refine ops_nil ?_ | refine opsD_cons ?_ | refine opsD_nil ?_ | refine any_step ?_ | refine any_nil ?_ | refine code_seq ?_ | refine code_region ?_ | refine code_cond ?_ | refine code_block ?_ | refine code_scope ?_ | refine code_skip ?_ | refine code_ret ?_ | refine code_exit ?_ | (refine And.intro ?_ ?_) | (intro h; first | exact Bool.noConfusion h | (simp at h; done) | simp at h | skip) | refine eqv_len_map ?_ | refine eqv_zero ?_ | refine eqv_wrap (by omega) (by omega) ?_ | refine eqv_to _ (set_map rfl rfl) ?_ | refine ⟨_, _, (by first | rfl | assumption), at_map (by assumption), ?_⟩ | refine ⟨_, at_map (by assumption), (by decide), ?_⟩ | refine ⟨_, at_map (by assumption), ?_⟩ | (refine (?_ : _ ≤ 140737488355328); simp [rowsLen] <;> omega) | (refine (?_ : _ ≤ 9223372036854775807); simp [rowsLen] <;> omega) | (refine (?_ : _ = rowsLen _); simp [rowsLen] <;> omega) | refine eqv_to _ (app_row rfl) (eqv_to _ app_len ?_) | refine eqv_to _ (app_first rfl) (eqv_to 1 rfl ?_) | refine idx_sl (at_map (by assumption)) (by omega) ?_ | refine idx_ms _ (by first | rfl | assumption) (by first | assumption | omega) ?_ | fail)
    refine code_loop (fun i : Nat => ⟨[(20, vint .i64 i), (19, vint .i64 N), (4, .ms 0 1 0 N), (5, .ms 1 1 0 N)], [bO s, bO (w1 (s.map (!·)) N i)]⟩)
      (fun i => i ≤ N) (fun i => N - i) ⟨0, by omega, ⟨[4, 5], rfl, rfl, And.intro rfl (And.intro rfl trivial), rfl, rfl, rfl, rfl, trivial⟩⟩ ?_
    intro i hi
    repeat' (first | (exact (rfl : allOne _ = true)) | exact trivial | (refine (?_ : _ ≠ _); omega) | (refine (?_ : srcLen _ = rowsLen _); rfl) | (intro h; exact absurd h (Nat.succ_ne_zero _)) | (intro h; exact absurd h (Nat.not_lt_zero _))  | (exact (Nat.le_of_ble_eq_true rfl)) | (exact (by kernel_rfl : drawOk _ _ = true)) | refine ops_cons ?_ | refine ops_nil ?_ | refine opsD_cons ?_ | refine opsD_nil ?_ | refine any_step ?_ | refine any_nil ?_ | refine code_seq ?_ | refine code_region ?_ | refine code_cond ?_ | refine code_block ?_ | refine code_scope ?_ | refine code_skip ?_ | refine code_ret ?_ | refine code_exit ?_ | (refine And.intro ?_ ?_) | (intro h; first | exact Bool.noConfusion h | (simp at h; done) | simp at h | skip) | refine eqv_len_map ?_ | refine eqv_zero ?_ | refine eqv_wrap (by omega) (by omega) ?_ | refine eqv_to _ (set_map rfl rfl) ?_ | refine ⟨_, _, (by first | rfl | assumption), at_map (by assumption), ?_⟩ | refine ⟨_, at_map (by assumption), (by decide), ?_⟩ | refine ⟨_, at_map (by assumption), ?_⟩ | (refine (?_ : _ ≤ 140737488355328); simp [rowsLen] <;> omega) | (refine (?_ : _ ≤ 9223372036854775807); simp [rowsLen] <;> omega) | (refine (?_ : _ = rowsLen _); simp [rowsLen] <;> omega) | refine eqv_to _ (app_row rfl) (eqv_to _ app_len ?_) | refine eqv_to _ (app_first rfl) (eqv_to 1 rfl ?_) | refine idx_sl (at_map (by assumption)) (by omega) ?_ | refine idx_ms _ (by first | rfl | assumption) (by first | assumption | omega) ?_ | fail)
    · have hw := w1_get hrl h
      have hw1 := w1_step hrl h
      have hsi : s[i]? = some (s.getD i false) := of_getD false (by omega)
      rw [show (s.map (!·)).getD i false = !(s.getD i false) from by simp [List.getD_eq_getElem?_getD, List.getElem?_map, List.getElem?_eq_getElem (show i < s.length by omega)]] at hw1
      generalize s.getD i false = k at *
      repeat' (first | (exact (rfl : allOne _ = true)) | exact trivial | (refine (?_ : _ ≠ _); omega) | (refine (?_ : srcLen _ = rowsLen _); rfl) | (intro h; exact absurd h (Nat.succ_ne_zero _)) | (intro h; exact absurd h (Nat.not_lt_zero _))  | (exact (Nat.le_of_ble_eq_true rfl)) | (exact (by kernel_rfl : drawOk _ _ = true)) | refine ops_cons ?_ | refine ops_nil ?_ | refine opsD_cons ?_ | refine opsD_nil ?_ | refine any_step ?_ | refine any_nil ?_ | refine code_seq ?_ | refine code_region ?_ | refine code_cond ?_ | refine code_block ?_ | refine code_scope ?_ | refine code_skip ?_ | refine code_ret ?_ | refine code_exit ?_ | (refine And.intro ?_ ?_) | (intro h; first | exact Bool.noConfusion h | (simp at h; done) | simp at h | skip) | refine eqv_len_map ?_ | refine eqv_zero ?_ | refine eqv_wrap (by omega) (by omega) ?_ | refine eqv_to _ (set_map rfl rfl) ?_ | refine ⟨_, _, (by first | rfl | assumption), at_map (by assumption), ?_⟩ | refine ⟨_, at_map (by assumption), (by decide), ?_⟩ | refine ⟨_, at_map (by assumption), ?_⟩ | (refine (?_ : _ ≤ 140737488355328); simp [rowsLen] <;> omega) | (refine (?_ : _ ≤ 9223372036854775807); simp [rowsLen] <;> omega) | (refine (?_ : _ = rowsLen _); simp [rowsLen] <;> omega) | refine eqv_to _ (app_row rfl) (eqv_to _ app_len ?_) | refine eqv_to _ (app_first rfl) (eqv_to 1 rfl ?_) | refine idx_sl (at_map (by assumption)) (by omega) ?_ | refine idx_ms _ (by first | rfl | assumption) (by first | assumption | omega) ?_ | fail)
      refine ⟨i + 1, by omega, by omega, ?_⟩
      dsimp only
      rw [hw1]
      exact ⟨[0, 1], rfl, rfl, And.intro rfl (And.intro rfl trivial), rfl, rfl, rfl, rfl, trivial⟩
    · obtain rfl : i = N := by omega
      exact ret_obj [1] [bO (s.map (!·))] rfl rfl (And.intro (by rw [w1_end hrl]; rfl) trivial) (r' := .tup [.ms 0 1 0 i, vbool true]) rfl (.inr ⟨hv0, i, A, f', g, hf, .inr ⟨s, hst, rfl, rfl⟩⟩)
end Go.Proofs.Ytlhakdmenohdnaa.Cw

/-
  begin: the walk.
-/
namespace Go.Proofs.Ytlhakdmenohdnaa.Cw
open Go.Cw Go.Proofs
set_option linter.unusedVariables false
set_option maxRecDepth 100000
set_option maxHeartbeats 4000000

/-- The state at the loop's head. -/
def JB (n : Net) (N i : Nat) (A : List (List Arc)) (f : List Int) : ASt :=
  ⟨[(22, vint .i64 i), (21, vint .i64 n.es.length), (20, .pv (.sl 5 (n.es.map encE))), (3, .ptr 4 5 0 0)],
      some ⟨24, 2, false, .box [.pv (ei n.nodes), .pv (.sl 5 (n.es.map encE))]⟩ :: iO f :: iO (sumsOf N ((n.es.zip f).take i)) :: some ⟨60, 1, false, .m (cellsA 10 A)⟩ ::
        some ⟨64, 5, false, .box [.pv (ei n.nodes), .pv (.sl 5 (n.es.map encE)), .ms 1 1 0 n.es.length, .ms 2 1 0 N, .ms 3 1 0 N]⟩ :: none :: none :: none :: none :: none :: A.map rowO⟩

theorem allD_range (k m : Nat) : allD (List.range' k m) = true := allD_of (List.nodup_range' (s := k) (n := m) (step := 1))

theorem sums_self {N : Nat} {z : EF} {e : Edge} {y : Int} (h : e.fr = e.to) : sumsOf N (z ++ [(e, y)]) = sumsOf N z := by
  unfold sumsOf
  refine List.map_congr_left fun v _ => ?_
  rw [exc_append]
  simp only [exc, h]
  split <;> simp <;> omega

theorem rows_keptT {N m x : Nat} {A : List (List Arc)} {T H : Heap} {d : Nat} (hA : A.length = N) (hT : A.map rowO = T) (hH : ∀ (j : Nat) o, T[j]? = some (some o) → H[j + 10]? = some (some o)) :
    kept H d (rnB N m N x) ((List.range' 10 N).set N x) T := hT ▸ rows_kept hA hT hH

/-- The state ahead of the appends. -/
def JC (n : Net) (N i : Nat) (A : List (List Arc)) (f : List Int) (e : Edge) (y : Int) (z : EF) (T : Heap) (p q r : Int) : ASt :=
  ⟨[(22, vint .i64 i), (21, vint .i64 n.es.length), (20, .pv (.sl 5 (n.es.map encE))), (3, .ptr 4 5 0 0), (4, vint .i64 i), (5, .ptr 5 5 0 0)],
      some ⟨24, 2, false, .box [.pv (ei n.nodes), .pv (.sl 5 (n.es.map encE))]⟩ :: iO (f.set i y) :: iO (sumsOf N (z ++ [(e, y)])) :: some ⟨60, 1, false, .m (cellsA 10 A)⟩ ::
        some ⟨64, 5, false, .box [.pv (ei n.nodes), .pv (.sl 5 (n.es.map encE)), .ms 1 1 0 n.es.length, .ms 2 1 0 N, .ms 3 1 0 N]⟩ ::
        some ⟨46, 5, false, .box [.pv (ei e.fr), .pv (ei e.to), .pv (ei p), .pv (ei q), .pv (ei r)]⟩ :: none :: none :: none :: none :: T⟩

theorem zip_set_take {es : List Edge} {f : List Int} {i : Nat} {y : Int} : (es.zip (f.set i y)).take i = (es.zip f).take i := by
  rw [List.zip_eq_zipWith, List.zip_eq_zipWith, List.take_zipWith, List.take_zipWith, List.take_set_of_le (Nat.le_refl i)]

theorem BInv.bound {n : Net} {N i : Nat} {A : List (List Arc)} {f : List Int} (h : BInv n N i A f) {k : Int} (hs : ∀ e ∈ n.es, soundB k e = true) : ∀ x ∈ (n.es.zip f).take i, 0 ≤ x.2 ∧ x.2 ≤ 1000 := fun x hx => by
  obtain ⟨j, hj, hx⟩ := List.getElem_of_mem hx
  have hj2 : j < i := by simp only [List.length_take] at hj; omega
  rw [List.getElem_take] at hx
  have hx2 : (n.es.zip f)[j]? = some x := by rw [← hx]; exact List.getElem?_eq_getElem _
  obtain ⟨e, v⟩ := x
  rw [List.getElem?_zip_eq_some] at hx2
  have := h.flow j e hj2 hx2.1
  rw [getD_of hx2.2] at this
  have h2 := hs e (List.mem_of_getElem? hx2.1)
  simp [soundB] at h2
  simp only at this ⊢
  rw [this]
  unfold startF
  split <;> omega

section
variable {N : Nat} {A : List (List Arc)} {H T : Heap} {o0 o1 o2 o4 : Option AObj}
theorem conv_arcs (hA : A.length = N) (hH : H = o0 :: o1 :: o2 :: some ⟨60, 1, false, .m (cellsA 10 A)⟩ :: o4 :: none :: none :: none :: none :: none :: T) (h : ∀ j, j < A.length → T[j]? = some (rowO (A.getD j []))) :
    conv H (.ms 3 1 0 N) = some (.pv (.sl 1 (A.map fun l => [rowP l]))) := by
  have hr := rows_conv (H := H) A 10 fun j hj => by rw [Nat.add_comm, hH]; exact h j hj
  have ht : ((cellsA 10 A).drop 0).take N = cellsA 10 A := by rw [List.drop_zero, List.take_of_length_le (by rw [cellsA_len]; omega)]
  have h3 : H[3]? = some (some ⟨60, 1, false, .m (cellsA 10 A)⟩) := by rw [hH]; rfl
  have hc : convC H 5 (.ms 3 1 0 N) = some (.sl 1 (A.map fun l => [rowP l])) := by
    simp only [convC, h3, ht]
    rw [hr]
  show (match convC H 5 (.ms 3 1 0 N) with | some p => some (AV.pv p) | none => none) = _
  rw [hc]

theorem ok_arcs (hA : A.length = N) (hH : H = o0 :: o1 :: o2 :: some ⟨60, 1, false, .m (cellsA 10 A)⟩ :: o4 :: none :: none :: none :: none :: none :: T) (h : ∀ j, j < A.length → T[j]? = some (rowO (A.getD j []))) : ok1 H (.ms 3 1 0 N) := by
  have hr := rows_ok (H := H) A 10 fun j hj => by rw [Nat.add_comm, hH]; exact h j hj
  have h3 : H[3]? = some (some ⟨60, 1, false, .m (cellsA 10 A)⟩) := by rw [hH]; rfl
  show okC H 5 (.ms 3 1 0 N)
  simp only [okC, h3]
  exact ⟨by rw [cellsA_len]; omega, fun r hr' => hr r (List.mem_of_mem_drop (List.mem_of_mem_take hr'))⟩

theorem ids_arcs (hA : A.length = N) (hH : H = o0 :: o1 :: o2 :: some ⟨60, 1, false, .m (cellsA 10 A)⟩ :: o4 :: none :: none :: none :: none :: none :: T) (h : ∀ j, j < A.length → T[j]? = some (rowO (A.getD j []))) :
    ∀ i, i ∈ ids1 H (.ms 3 1 0 N) → i = 3 ∨ 10 ≤ i := by
  have hr := rows_ids (H := H) A 10 fun j hj => by rw [Nat.add_comm, hH]; exact h j hj
  have h3 : H[3]? = some (some ⟨60, 1, false, .m (cellsA 10 A)⟩) := by rw [hH]; rfl
  have ht : ((cellsA 10 A).drop 0).take N = cellsA 10 A := by rw [List.drop_zero, List.take_of_length_le (by rw [cellsA_len]; omega)]
  intro i hi
  have hi : i ∈ idsC H 5 (.ms 3 1 0 N) := hi
  simp only [idsC, h3, ht] at hi
  rcases List.mem_append.1 hi with k | k
  · simp at k; exact .inl k
  · exact .inr (hr i k)
end

theorem c_begin0 (n : Net) (hv : validR n = 0) : ACall Try.prog 31 [encN n] [] (fun r H' => ∃ N A f, GOk n N A ∧ FOk n f ∧ Feas n f (fun _ => 0) ∧ r = .ptr 0 5 0 0 ∧ H' = [wO n N A, iO f, iO (sumsOf N (n.es.zip f))]) := by
  obtain ⟨v1, v2, v3, v4⟩ := valid_spec hv
  obtain ⟨N, hN⟩ := Int.eq_ofNat_of_zero_le (show 0 ≤ n.nodes by omega)
  refine acall_of tok mixed 125 rfl (fn := Try.f31) (c := Try.f31.body.getD .skip) (by kernel_rfl) (by kernel_rfl) (by kernel_rfl) rfl 0 rfl ?_
  repeat' (first | (exact (rfl : allOne _ = true)) | exact trivial | (refine (?_ : _ ≠ _); omega) | (refine (?_ : srcLen _ = rowsLen _); rfl) | (intro h; exact absurd h (Nat.succ_ne_zero _)) | (intro h; exact absurd h (Nat.not_lt_zero _))  | (exact (Nat.le_of_ble_eq_true rfl)) | (exact (by kernel_rfl : drawOk _ _ = true)) | refine ops_cons ?_ | refine ops_nil ?_ | refine opsD_cons ?_ | refine opsD_nil ?_ | refine any_step ?_ | refine any_nil ?_ | refine code_seq ?_ | refine code_region ?_ | refine code_cond ?_ | refine code_block ?_ | refine code_scope ?_ | refine code_skip ?_ | refine code_ret ?_ | refine code_exit ?_ | (refine And.intro ?_ ?_) | (intro h; first | exact Bool.noConfusion h | (simp at h; done) | simp at h | skip) | refine eqv_len_map ?_ | refine eqv_zero ?_ | refine eqv_wrap (by omega) (by omega) ?_ | refine eqv_to _ (set_map rfl rfl) ?_ | refine ⟨_, _, (by first | rfl | assumption), at_map (by assumption), ?_⟩ | refine ⟨_, at_map (by assumption), (by decide), ?_⟩ | refine ⟨_, at_map (by assumption), ?_⟩ | (refine (?_ : _ ≤ 140737488355328); simp [rowsLen] <;> omega) | (refine (?_ : _ ≤ 9223372036854775807); simp [rowsLen] <;> omega) | (refine (?_ : _ = rowsLen _); simp [rowsLen] <;> omega) | refine eqv_to _ (app_row rfl) (eqv_to _ app_len ?_) | refine eqv_to _ (app_first rfl) (eqv_to 1 rfl ?_) | refine idx_sl (at_map (by assumption)) (by omega) ?_ | refine idx_ms _ (by first | rfl | assumption) (by first | assumption | omega) ?_ | fail)
  refine ⟨n.es.length, n.es.length, rfl, rfl, Nat.le_refl _, by omega, by omega, eqv_to (encS (List.replicate n.es.length 0)) (by simp [encS, ei]) ?_⟩
  repeat' (first | (exact (rfl : allOne _ = true)) | exact trivial | (refine (?_ : _ ≠ _); omega) | (refine (?_ : srcLen _ = rowsLen _); rfl) | (intro h; exact absurd h (Nat.succ_ne_zero _)) | (intro h; exact absurd h (Nat.not_lt_zero _))  | (exact (Nat.le_of_ble_eq_true rfl)) | (exact (by kernel_rfl : drawOk _ _ = true)) | refine ops_cons ?_ | refine ops_nil ?_ | refine opsD_cons ?_ | refine opsD_nil ?_ | refine any_step ?_ | refine any_nil ?_ | refine code_seq ?_ | refine code_region ?_ | refine code_cond ?_ | refine code_block ?_ | refine code_scope ?_ | refine code_skip ?_ | refine code_ret ?_ | refine code_exit ?_ | (refine And.intro ?_ ?_) | (intro h; first | exact Bool.noConfusion h | (simp at h; done) | simp at h | skip) | refine eqv_len_map ?_ | refine eqv_zero ?_ | refine eqv_wrap (by omega) (by omega) ?_ | refine eqv_to _ (set_map rfl rfl) ?_ | refine ⟨_, _, (by first | rfl | assumption), at_map (by assumption), ?_⟩ | refine ⟨_, at_map (by assumption), (by decide), ?_⟩ | refine ⟨_, at_map (by assumption), ?_⟩ | (refine (?_ : _ ≤ 140737488355328); simp [rowsLen] <;> omega) | (refine (?_ : _ ≤ 9223372036854775807); simp [rowsLen] <;> omega) | (refine (?_ : _ = rowsLen _); simp [rowsLen] <;> omega) | refine eqv_to _ (app_row rfl) (eqv_to _ app_len ?_) | refine eqv_to _ (app_first rfl) (eqv_to 1 rfl ?_) | refine idx_sl (at_map (by assumption)) (by omega) ?_ | refine idx_ms _ (by first | rfl | assumption) (by first | assumption | omega) ?_ | fail)
  refine ⟨N, N, hN, hN, Nat.le_refl _, by omega, by omega, eqv_to (encS (sumsOf N [])) (sums_nil _) ?_⟩
  repeat' (first | (exact (rfl : allOne _ = true)) | exact trivial | (refine (?_ : _ ≠ _); omega) | (refine (?_ : srcLen _ = rowsLen _); rfl) | (intro h; exact absurd h (Nat.succ_ne_zero _)) | (intro h; exact absurd h (Nat.not_lt_zero _))  | (exact (Nat.le_of_ble_eq_true rfl)) | (exact (by kernel_rfl : drawOk _ _ = true)) | refine ops_cons ?_ | refine ops_nil ?_ | refine opsD_cons ?_ | refine opsD_nil ?_ | refine any_step ?_ | refine any_nil ?_ | refine code_seq ?_ | refine code_region ?_ | refine code_cond ?_ | refine code_block ?_ | refine code_scope ?_ | refine code_skip ?_ | refine code_ret ?_ | refine code_exit ?_ | (refine And.intro ?_ ?_) | (intro h; first | exact Bool.noConfusion h | (simp at h; done) | simp at h | skip) | refine eqv_len_map ?_ | refine eqv_zero ?_ | refine eqv_wrap (by omega) (by omega) ?_ | refine eqv_to _ (set_map rfl rfl) ?_ | refine ⟨_, _, (by first | rfl | assumption), at_map (by assumption), ?_⟩ | refine ⟨_, at_map (by assumption), (by decide), ?_⟩ | refine ⟨_, at_map (by assumption), ?_⟩ | (refine (?_ : _ ≤ 140737488355328); simp [rowsLen] <;> omega) | (refine (?_ : _ ≤ 9223372036854775807); simp [rowsLen] <;> omega) | (refine (?_ : _ = rowsLen _); simp [rowsLen] <;> omega) | refine eqv_to _ (app_row rfl) (eqv_to _ app_len ?_) | refine eqv_to _ (app_first rfl) (eqv_to 1 rfl ?_) | refine idx_sl (at_map (by assumption)) (by omega) ?_ | refine idx_ms _ (by first | rfl | assumption) (by first | assumption | omega) ?_ | fail)
  refine ⟨N, N, hN, hN, Nat.le_refl _, by omega, by omega, eqv_to (List.replicate N [.val (.slice none 0 0)]) rfl ?_⟩
  repeat' (first | (exact (rfl : allOne _ = true)) | exact trivial | (refine (?_ : _ ≠ _); omega) | (refine (?_ : srcLen _ = rowsLen _); rfl) | (intro h; exact absurd h (Nat.succ_ne_zero _)) | (intro h; exact absurd h (Nat.not_lt_zero _))  | (exact (Nat.le_of_ble_eq_true rfl)) | (exact (by kernel_rfl : drawOk _ _ = true)) | refine ops_cons ?_ | refine ops_nil ?_ | refine opsD_cons ?_ | refine opsD_nil ?_ | refine any_step ?_ | refine any_nil ?_ | refine code_seq ?_ | refine code_region ?_ | refine code_cond ?_ | refine code_block ?_ | refine code_scope ?_ | refine code_skip ?_ | refine code_ret ?_ | refine code_exit ?_ | (refine And.intro ?_ ?_) | (intro h; first | exact Bool.noConfusion h | (simp at h; done) | simp at h | skip) | refine eqv_len_map ?_ | refine eqv_zero ?_ | refine eqv_wrap (by omega) (by omega) ?_ | refine eqv_to _ (set_map rfl rfl) ?_ | refine ⟨_, _, (by first | rfl | assumption), at_map (by assumption), ?_⟩ | refine ⟨_, at_map (by assumption), (by decide), ?_⟩ | refine ⟨_, at_map (by assumption), ?_⟩ | (refine (?_ : _ ≤ 140737488355328); simp [rowsLen] <;> omega) | (refine (?_ : _ ≤ 9223372036854775807); simp [rowsLen] <;> omega) | (refine (?_ : _ = rowsLen _); simp [rowsLen] <;> omega) | refine eqv_to _ (app_row rfl) (eqv_to _ app_len ?_) | refine eqv_to _ (app_first rfl) (eqv_to 1 rfl ?_) | refine idx_sl (at_map (by assumption)) (by omega) ?_ | refine idx_ms _ (by first | rfl | assumption) (by first | assumption | omega) ?_ | fail)
  refine ghost_loop (Ghost.pm (i := 3) rfl) ?_
  refine code_loop (fun X : Nat × List (List Arc) × List Int => JB n N X.1 X.2.1 X.2.2)
      (fun X => BInv n N X.1 X.2.1 X.2.2 ∧ X.1 ≤ n.es.length) (fun X => n.es.length - X.1) ?_ ?_
  · refine ⟨(0, List.replicate N [], List.replicate n.es.length 0), ⟨BInv.start, Nat.zero_le _⟩, 0 :: 1 :: 2 :: 3 :: 4 :: List.range' 5 (5 + N), ?_, rfl, ?_, rfl, rfl, rfl, rfl, trivial⟩
    · have := allD_range 0 (10 + N)
      rw [show 10 + N = (5 + N) + 1 + 1 + 1 + 1 + 1 by omega] at this
      exact this
    · refine And.intro rfl (And.intro rfl (And.intro rfl (And.intro ?_ (And.intro rfl ?_))))
      · show some (some (⟨60, 1, false, .m _⟩ : AObj)) = some (some ⟨60, 1, false, .m _⟩)
        rw [cellsA_nil]
        simp [renL, renC, pvs]
      · exact kept_ids _ _ (by simp; omega) fun j i o h1 h2 => absurd h2 (fun e => by
          have := List.mem_of_getElem? e
          simp [rowO] at this)
  rintro ⟨i, A, f⟩ ⟨hb, hi⟩
  dsimp only [JB] at hb hi ⊢
  generalize hT : A.map rowO = T at *
  repeat' (first | (exact (rfl : allOne _ = true)) | exact trivial | (refine (?_ : _ ≠ _); omega) | (refine (?_ : srcLen _ = rowsLen _); rfl) | (intro h; exact absurd h (Nat.succ_ne_zero _)) | (intro h; exact absurd h (Nat.not_lt_zero _))  | (exact (Nat.le_of_ble_eq_true rfl)) | (exact (by kernel_rfl : drawOk _ _ = true)) | refine ops_cons ?_ | refine ops_nil ?_ | refine opsD_cons ?_ | refine opsD_nil ?_ | refine any_step ?_ | refine any_nil ?_ | refine code_seq ?_ | refine code_cond ?_ | refine code_block ?_ | refine code_scope ?_ | refine code_skip ?_ | refine code_ret ?_ | refine code_exit ?_ | (refine And.intro ?_ ?_) | (intro h; first | exact Bool.noConfusion h | (simp at h; done) | simp at h | skip) | refine eqv_len_map ?_ | refine eqv_zero ?_ | refine eqv_wrap (by omega) (by omega) ?_ | refine eqv_to _ (set_map rfl rfl) ?_ | refine ⟨_, _, (by first | rfl | assumption), at_map (by assumption), ?_⟩ | refine ⟨_, at_map (by assumption), (by decide), ?_⟩ | refine ⟨_, at_map (by assumption), ?_⟩ | (refine (?_ : _ ≤ 140737488355328); simp [rowsLen] <;> omega) | (refine (?_ : _ ≤ 9223372036854775807); simp [rowsLen] <;> omega) | (refine (?_ : _ = rowsLen _); simp [rowsLen] <;> omega) | refine eqv_to _ (app_row rfl) (eqv_to _ app_len ?_) | refine eqv_to _ (app_first rfl) (eqv_to 1 rfl ?_) | refine idx_sl (at_map (by assumption)) (by omega) ?_ | refine idx_ms _ (by first | rfl | assumption) (by first | assumption | omega) ?_ | fail)
  refine code_region ?_
  repeat' (first | (exact (rfl : allOne _ = true)) | exact trivial | (refine (?_ : _ ≠ _); omega) | (refine (?_ : srcLen _ = rowsLen _); rfl) | (intro h; exact absurd h (Nat.succ_ne_zero _)) | (intro h; exact absurd h (Nat.not_lt_zero _))  | (exact (Nat.le_of_ble_eq_true rfl)) | (exact (by kernel_rfl : drawOk _ _ = true)) | refine ops_cons ?_ | refine ops_nil ?_ | refine opsD_cons ?_ | refine opsD_nil ?_ | refine any_step ?_ | refine any_nil ?_ | refine code_seq ?_ | refine code_cond ?_ | refine code_block ?_ | refine code_scope ?_ | refine code_skip ?_ | refine code_ret ?_ | refine code_exit ?_ | (refine And.intro ?_ ?_) | (intro h; first | exact Bool.noConfusion h | (simp at h; done) | simp at h | skip) | refine eqv_len_map ?_ | refine eqv_zero ?_ | refine eqv_wrap (by omega) (by omega) ?_ | refine eqv_to _ (set_map rfl rfl) ?_ | refine ⟨_, _, (by first | rfl | assumption), at_map (by assumption), ?_⟩ | refine ⟨_, at_map (by assumption), (by decide), ?_⟩ | refine ⟨_, at_map (by assumption), ?_⟩ | (refine (?_ : _ ≤ 140737488355328); simp [rowsLen] <;> omega) | (refine (?_ : _ ≤ 9223372036854775807); simp [rowsLen] <;> omega) | (refine (?_ : _ = rowsLen _); simp [rowsLen] <;> omega) | refine eqv_to _ (app_row rfl) (eqv_to _ app_len ?_) | refine eqv_to _ (app_first rfl) (eqv_to 1 rfl ?_) | refine idx_sl (at_map (by assumption)) (by omega) ?_ | refine idx_ms _ (by first | rfl | assumption) (by first | assumption | omega) ?_ | fail)
  · have hAl := hb.alen
    have hfl := hb.flen
    obtain ⟨e, he⟩ := getE h
    obtain ⟨v, hv0⟩ := getE (show i < f.length by omega)
    have hfarT : ∀ k m, k + m ≤ 10 → farH k m 10 T := fun k m hk => by rw [← hT]; exact rowsA_far A 10 hk
    have hfarA : ∀ k m, k + m ≤ 10 → ∀ r ∈ cellsA 10 A, farL k m r = true := fun k m hk => cellsA_far A 10 hk
    obtain ⟨a, b, ha, hbb, haN, hbN, hs1, hs2, hs3⟩ : ∃ a b : Nat, e.to = ↑a ∧ e.fr = ↑b ∧ a < N ∧ b < N ∧ 0 ≤ e.ls ∧ e.ls ≤ e.mo ∧ e.mo ≤ 1000 := by
      have := v4 e (List.mem_of_getElem? he)
      rw [hN] at this
      simp [soundB] at this
      exact ⟨e.to.toNat, e.fr.toNat, by omega, by omega, by omega, by omega, by omega, by omega, by omega⟩
    have hz : ∀ y, (n.es.zip (f.set i y)).take (i + 1) = (n.es.zip f).take i ++ [(e, y)] := fun y => by
      rw [zip_take he (by rw [List.getElem?_set, if_pos rfl, if_pos (by omega)]), zip_set_take]
    have hbd := exc_bound ((n.es.zip f).take i) (hb.bound v4)
    have hlz : ((n.es.zip f).take i).length ≤ 8192 := by simp; omega
    generalize hzz : (n.es.zip f).take i = z at *
    have hba := hbd a
    have hbb2 := hbd b
    refine code_region_at (k := 5) (GhostF.room (Nat.zero_le _) (Nat.le_add_left _ _) (fun _ _ h => h) rfl ⟨.inl (by decide), rfl, .inl (by decide), trivial, .inl (by decide), trivial, .inl (by decide), hfarA 5 1 (by decide), .inl (by decide), rfl, hfarT 5 1 (by decide)⟩) ?_
    repeat' (first | (exact (rfl : allOne _ = true)) | exact trivial | (refine (?_ : _ ≠ _); omega) | (refine (?_ : srcLen _ = rowsLen _); rfl) | (intro h; exact absurd h (Nat.succ_ne_zero _)) | (intro h; exact absurd h (Nat.not_lt_zero _))  | (exact (Nat.le_of_ble_eq_true rfl)) | (exact (by kernel_rfl : drawOk _ _ = true)) | refine ops_cons ?_ | refine ops_nil ?_ | refine opsD_cons ?_ | refine opsD_nil ?_ | refine any_step ?_ | refine any_nil ?_ | refine code_seq ?_ | refine code_cond ?_ | refine code_block ?_ | refine code_scope ?_ | refine code_skip ?_ | refine code_ret ?_ | refine code_exit ?_ | (refine And.intro ?_ ?_) | (intro h; first | exact Bool.noConfusion h | (simp at h; done) | simp at h | skip) | refine eqv_len_map ?_ | refine eqv_zero ?_ | refine eqv_wrap (by omega) (by omega) ?_ | refine eqv_to _ (set_map rfl rfl) ?_ | refine ⟨_, _, (by first | rfl | assumption), at_map (by assumption), ?_⟩ | refine ⟨_, at_map (by assumption), (by decide), ?_⟩ | refine ⟨_, at_map (by assumption), ?_⟩ | (refine (?_ : _ ≤ 140737488355328); simp [rowsLen] <;> omega) | (refine (?_ : _ ≤ 9223372036854775807); simp [rowsLen] <;> omega) | (refine (?_ : _ = rowsLen _); simp [rowsLen] <;> omega) | refine eqv_to _ (app_row rfl) (eqv_to _ app_len ?_) | refine eqv_to _ (app_first rfl) (eqv_to 1 rfl ?_) | refine idx_sl (at_map (by assumption)) (by omega) ?_ | refine idx_ms _ (by first | rfl | assumption) (by first | assumption | omega) ?_ | fail); repeat (any_goals (first | (change forceH T _; refine forceH_in ?_) | (change forceH (List.set T _ none) _; refine forceH_in ?_)); repeat' (first | (exact (rfl : allOne _ = true)) | exact trivial | (refine (?_ : _ ≠ _); omega) | (refine (?_ : srcLen _ = rowsLen _); rfl) | (intro h; exact absurd h (Nat.succ_ne_zero _)) | (intro h; exact absurd h (Nat.not_lt_zero _))  | (exact (Nat.le_of_ble_eq_true rfl)) | (exact (by kernel_rfl : drawOk _ _ = true)) | refine ops_cons ?_ | refine ops_nil ?_ | refine opsD_cons ?_ | refine opsD_nil ?_ | refine any_step ?_ | refine any_nil ?_ | refine code_seq ?_ | refine code_cond ?_ | refine code_block ?_ | refine code_scope ?_ | refine code_skip ?_ | refine code_ret ?_ | refine code_exit ?_ | (refine And.intro ?_ ?_) | (intro h; first | exact Bool.noConfusion h | (simp at h; done) | simp at h | skip) | refine eqv_len_map ?_ | refine eqv_zero ?_ | refine eqv_wrap (by omega) (by omega) ?_ | refine eqv_to _ (set_map rfl rfl) ?_ | refine ⟨_, _, (by first | rfl | assumption), at_map (by assumption), ?_⟩ | refine ⟨_, at_map (by assumption), (by decide), ?_⟩ | refine ⟨_, at_map (by assumption), ?_⟩ | (refine (?_ : _ ≤ 140737488355328); simp [rowsLen] <;> omega) | (refine (?_ : _ ≤ 9223372036854775807); simp [rowsLen] <;> omega) | (refine (?_ : _ = rowsLen _); simp [rowsLen] <;> omega) | refine eqv_to _ (app_row rfl) (eqv_to _ app_len ?_) | refine eqv_to _ (app_first rfl) (eqv_to 1 rfl ?_) | refine idx_sl (at_map (by assumption)) (by omega) ?_ | refine idx_ms _ (by first | rfl | assumption) (by first | assumption | omega) ?_ | fail))
    refine code_region ?_
    repeat' (first | (exact (rfl : allOne _ = true)) | exact trivial | (refine (?_ : _ ≠ _); omega) | (refine (?_ : srcLen _ = rowsLen _); rfl) | (intro h; exact absurd h (Nat.succ_ne_zero _)) | (intro h; exact absurd h (Nat.not_lt_zero _))  | (exact (Nat.le_of_ble_eq_true rfl)) | (exact (by kernel_rfl : drawOk _ _ = true)) | refine ops_cons ?_ | refine ops_nil ?_ | refine opsD_cons ?_ | refine opsD_nil ?_ | refine any_step ?_ | refine any_nil ?_ | refine code_seq ?_ | refine code_cond ?_ | refine code_block ?_ | refine code_scope ?_ | refine code_skip ?_ | refine code_ret ?_ | refine code_exit ?_ | (refine And.intro ?_ ?_) | (intro h; first | exact Bool.noConfusion h | (simp at h; done) | simp at h | skip) | refine eqv_len_map ?_ | refine eqv_zero ?_ | refine eqv_wrap (by omega) (by omega) ?_ | refine eqv_to _ (set_map rfl rfl) ?_ | refine ⟨_, _, (by first | rfl | assumption), at_map (by assumption), ?_⟩ | refine ⟨_, at_map (by assumption), (by decide), ?_⟩ | refine ⟨_, at_map (by assumption), ?_⟩ | (refine (?_ : _ ≤ 140737488355328); simp [rowsLen] <;> omega) | (refine (?_ : _ ≤ 9223372036854775807); simp [rowsLen] <;> omega) | (refine (?_ : _ = rowsLen _); simp [rowsLen] <;> omega) | refine eqv_to _ (app_row rfl) (eqv_to _ app_len ?_) | refine eqv_to _ (app_first rfl) (eqv_to 1 rfl ?_) | refine idx_sl (at_map (by assumption)) (by omega) ?_ | refine idx_ms _ (by first | rfl | assumption) (by first | assumption | omega) ?_ | fail); repeat (any_goals (first | (change forceH T _; refine forceH_in ?_) | (change forceH (List.set T _ none) _; refine forceH_in ?_)); repeat' (first | (exact (rfl : allOne _ = true)) | exact trivial | (refine (?_ : _ ≠ _); omega) | (refine (?_ : srcLen _ = rowsLen _); rfl) | (intro h; exact absurd h (Nat.succ_ne_zero _)) | (intro h; exact absurd h (Nat.not_lt_zero _))  | (exact (Nat.le_of_ble_eq_true rfl)) | (exact (by kernel_rfl : drawOk _ _ = true)) | refine ops_cons ?_ | refine ops_nil ?_ | refine opsD_cons ?_ | refine opsD_nil ?_ | refine any_step ?_ | refine any_nil ?_ | refine code_seq ?_ | refine code_cond ?_ | refine code_block ?_ | refine code_scope ?_ | refine code_skip ?_ | refine code_ret ?_ | refine code_exit ?_ | (refine And.intro ?_ ?_) | (intro h; first | exact Bool.noConfusion h | (simp at h; done) | simp at h | skip) | refine eqv_len_map ?_ | refine eqv_zero ?_ | refine eqv_wrap (by omega) (by omega) ?_ | refine eqv_to _ (set_map rfl rfl) ?_ | refine ⟨_, _, (by first | rfl | assumption), at_map (by assumption), ?_⟩ | refine ⟨_, at_map (by assumption), (by decide), ?_⟩ | refine ⟨_, at_map (by assumption), ?_⟩ | (refine (?_ : _ ≤ 140737488355328); simp [rowsLen] <;> omega) | (refine (?_ : _ ≤ 9223372036854775807); simp [rowsLen] <;> omega) | (refine (?_ : _ = rowsLen _); simp [rowsLen] <;> omega) | refine eqv_to _ (app_row rfl) (eqv_to _ app_len ?_) | refine eqv_to _ (app_first rfl) (eqv_to 1 rfl ?_) | refine idx_sl (at_map (by assumption)) (by omega) ?_ | refine idx_ms _ (by first | rfl | assumption) (by first | assumption | omega) ?_ | fail))
    refine code_region ?_
    repeat' (first | (exact (rfl : allOne _ = true)) | exact trivial | (refine (?_ : _ ≠ _); omega) | (refine (?_ : srcLen _ = rowsLen _); rfl) | (intro h; exact absurd h (Nat.succ_ne_zero _)) | (intro h; exact absurd h (Nat.not_lt_zero _))  | (exact (Nat.le_of_ble_eq_true rfl)) | (exact (by kernel_rfl : drawOk _ _ = true)) | refine ops_cons ?_ | refine ops_nil ?_ | refine opsD_cons ?_ | refine opsD_nil ?_ | refine any_step ?_ | refine any_nil ?_ | refine code_seq ?_ | refine code_cond ?_ | refine code_block ?_ | refine code_scope ?_ | refine code_skip ?_ | refine code_ret ?_ | refine code_exit ?_ | (refine And.intro ?_ ?_) | (intro h; first | exact Bool.noConfusion h | (simp at h; done) | simp at h | skip) | refine eqv_len_map ?_ | refine eqv_zero ?_ | refine eqv_wrap (by omega) (by omega) ?_ | refine eqv_to _ (set_map rfl rfl) ?_ | refine ⟨_, _, (by first | rfl | assumption), at_map (by assumption), ?_⟩ | refine ⟨_, at_map (by assumption), (by decide), ?_⟩ | refine ⟨_, at_map (by assumption), ?_⟩ | (refine (?_ : _ ≤ 140737488355328); simp [rowsLen] <;> omega) | (refine (?_ : _ ≤ 9223372036854775807); simp [rowsLen] <;> omega) | (refine (?_ : _ = rowsLen _); simp [rowsLen] <;> omega) | refine eqv_to _ (app_row rfl) (eqv_to _ app_len ?_) | refine eqv_to _ (app_first rfl) (eqv_to 1 rfl ?_) | refine idx_sl (at_map (by assumption)) (by omega) ?_ | refine idx_ms _ (by first | rfl | assumption) (by first | assumption | omega) ?_ | fail); repeat (any_goals (first | (change forceH T _; refine forceH_in ?_) | (change forceH (List.set T _ none) _; refine forceH_in ?_)); repeat' (first | (exact (rfl : allOne _ = true)) | exact trivial | (refine (?_ : _ ≠ _); omega) | (refine (?_ : srcLen _ = rowsLen _); rfl) | (intro h; exact absurd h (Nat.succ_ne_zero _)) | (intro h; exact absurd h (Nat.not_lt_zero _))  | (exact (Nat.le_of_ble_eq_true rfl)) | (exact (by kernel_rfl : drawOk _ _ = true)) | refine ops_cons ?_ | refine ops_nil ?_ | refine opsD_cons ?_ | refine opsD_nil ?_ | refine any_step ?_ | refine any_nil ?_ | refine code_seq ?_ | refine code_cond ?_ | refine code_block ?_ | refine code_scope ?_ | refine code_skip ?_ | refine code_ret ?_ | refine code_exit ?_ | (refine And.intro ?_ ?_) | (intro h; first | exact Bool.noConfusion h | (simp at h; done) | simp at h | skip) | refine eqv_len_map ?_ | refine eqv_zero ?_ | refine eqv_wrap (by omega) (by omega) ?_ | refine eqv_to _ (set_map rfl rfl) ?_ | refine ⟨_, _, (by first | rfl | assumption), at_map (by assumption), ?_⟩ | refine ⟨_, at_map (by assumption), (by decide), ?_⟩ | refine ⟨_, at_map (by assumption), ?_⟩ | (refine (?_ : _ ≤ 140737488355328); simp [rowsLen] <;> omega) | (refine (?_ : _ ≤ 9223372036854775807); simp [rowsLen] <;> omega) | (refine (?_ : _ = rowsLen _); simp [rowsLen] <;> omega) | refine eqv_to _ (app_row rfl) (eqv_to _ app_len ?_) | refine eqv_to _ (app_first rfl) (eqv_to 1 rfl ?_) | refine idx_sl (at_map (by assumption)) (by omega) ?_ | refine idx_ms _ (by first | rfl | assumption) (by first | assumption | omega) ?_ | fail))
    all_goals (obtain ⟨y, hy, hy0, hy1, hfy⟩ : ∃ y, y = startF e ∧ 0 ≤ y ∧ y ≤ 1000 ∧ (f.set i y)[i]? = some y := ⟨startF e, rfl, by unfold startF; split <;> omega, by unfold startF; split <;> omega, by rw [List.getElem?_set, if_pos rfl, if_pos (by omega)]⟩)
    all_goals first
      | (have hyy : e.mo = y := by rw [hy]; exact (if_pos (by assumption)).symm
         have hx0 : (f.set i e.ls)[i]? = some e.ls := by rw [List.getElem?_set, if_pos rfl, if_pos (by omega)]
         refine code_region ?_
         repeat' (first | (exact (rfl : allOne _ = true)) | exact trivial | (refine (?_ : _ ≠ _); omega) | (refine (?_ : srcLen _ = rowsLen _); rfl) | (intro h; exact absurd h (Nat.succ_ne_zero _)) | (intro h; exact absurd h (Nat.not_lt_zero _))  | (exact (Nat.le_of_ble_eq_true rfl)) | (exact (by kernel_rfl : drawOk _ _ = true)) | refine ops_cons ?_ | refine ops_nil ?_ | refine opsD_cons ?_ | refine opsD_nil ?_ | refine any_step ?_ | refine any_nil ?_ | refine code_seq ?_ | refine code_cond ?_ | refine code_block ?_ | refine code_scope ?_ | refine code_skip ?_ | refine code_ret ?_ | refine code_exit ?_ | (refine And.intro ?_ ?_) | (intro h; first | exact Bool.noConfusion h | (simp at h; done) | simp at h | skip) | refine eqv_len_map ?_ | refine eqv_zero ?_ | refine eqv_wrap (by omega) (by omega) ?_ | refine eqv_to _ (set_map rfl rfl) ?_ | refine ⟨_, _, (by first | rfl | assumption), at_map (by assumption), ?_⟩ | refine ⟨_, at_map (by assumption), (by decide), ?_⟩ | refine ⟨_, at_map (by assumption), ?_⟩ | (refine (?_ : _ ≤ 140737488355328); simp [rowsLen] <;> omega) | (refine (?_ : _ ≤ 9223372036854775807); simp [rowsLen] <;> omega) | (refine (?_ : _ = rowsLen _); simp [rowsLen] <;> omega) | refine eqv_to _ (app_row rfl) (eqv_to _ app_len ?_) | refine eqv_to _ (app_first rfl) (eqv_to 1 rfl ?_) | refine idx_sl (at_map (by assumption)) (by omega) ?_ | refine idx_ms _ (by first | rfl | assumption) (by first | assumption | omega) ?_ | fail); repeat (any_goals (first | (change forceH T _; refine forceH_in ?_) | (change forceH (List.set T _ none) _; refine forceH_in ?_)); repeat' (first | (exact (rfl : allOne _ = true)) | exact trivial | (refine (?_ : _ ≠ _); omega) | (refine (?_ : srcLen _ = rowsLen _); rfl) | (intro h; exact absurd h (Nat.succ_ne_zero _)) | (intro h; exact absurd h (Nat.not_lt_zero _))  | (exact (Nat.le_of_ble_eq_true rfl)) | (exact (by kernel_rfl : drawOk _ _ = true)) | refine ops_cons ?_ | refine ops_nil ?_ | refine opsD_cons ?_ | refine opsD_nil ?_ | refine any_step ?_ | refine any_nil ?_ | refine code_seq ?_ | refine code_cond ?_ | refine code_block ?_ | refine code_scope ?_ | refine code_skip ?_ | refine code_ret ?_ | refine code_exit ?_ | (refine And.intro ?_ ?_) | (intro h; first | exact Bool.noConfusion h | (simp at h; done) | simp at h | skip) | refine eqv_len_map ?_ | refine eqv_zero ?_ | refine eqv_wrap (by omega) (by omega) ?_ | refine eqv_to _ (set_map rfl rfl) ?_ | refine ⟨_, _, (by first | rfl | assumption), at_map (by assumption), ?_⟩ | refine ⟨_, at_map (by assumption), (by decide), ?_⟩ | refine ⟨_, at_map (by assumption), ?_⟩ | (refine (?_ : _ ≤ 140737488355328); simp [rowsLen] <;> omega) | (refine (?_ : _ ≤ 9223372036854775807); simp [rowsLen] <;> omega) | (refine (?_ : _ = rowsLen _); simp [rowsLen] <;> omega) | refine eqv_to _ (app_row rfl) (eqv_to _ app_len ?_) | refine eqv_to _ (app_first rfl) (eqv_to 1 rfl ?_) | refine idx_sl (at_map (by assumption)) (by omega) ?_ | refine idx_ms _ (by first | rfl | assumption) (by first | assumption | omega) ?_ | fail))
         rw [List.set_set, hyy])
      | (have hyy : e.ls = y := by rw [hy]; exact (if_neg (by omega)).symm
         rw [hyy])
    all_goals
      refine code_region ?_
      repeat' (first | (exact (rfl : allOne _ = true)) | exact trivial | (refine (?_ : _ ≠ _); omega) | (refine (?_ : srcLen _ = rowsLen _); rfl) | (intro h; exact absurd h (Nat.succ_ne_zero _)) | (intro h; exact absurd h (Nat.not_lt_zero _))  | (exact (Nat.le_of_ble_eq_true rfl)) | (exact (by kernel_rfl : drawOk _ _ = true)) | refine ops_cons ?_ | refine ops_nil ?_ | refine opsD_cons ?_ | refine opsD_nil ?_ | refine any_step ?_ | refine any_nil ?_ | refine code_seq ?_ | refine code_cond ?_ | refine code_block ?_ | refine code_scope ?_ | refine code_skip ?_ | refine code_ret ?_ | refine code_exit ?_ | (refine And.intro ?_ ?_) | (intro h; first | exact Bool.noConfusion h | (simp at h; done) | simp at h | skip) | refine eqv_len_map ?_ | refine eqv_zero ?_ | refine eqv_wrap (by omega) (by omega) ?_ | refine eqv_to _ (set_map rfl rfl) ?_ | refine ⟨_, _, (by first | rfl | assumption), at_map (by assumption), ?_⟩ | refine ⟨_, at_map (by assumption), (by decide), ?_⟩ | refine ⟨_, at_map (by assumption), ?_⟩ | (refine (?_ : _ ≤ 140737488355328); simp [rowsLen] <;> omega) | (refine (?_ : _ ≤ 9223372036854775807); simp [rowsLen] <;> omega) | (refine (?_ : _ = rowsLen _); simp [rowsLen] <;> omega) | refine eqv_to _ (app_row rfl) (eqv_to _ app_len ?_) | refine eqv_to _ (app_first rfl) (eqv_to 1 rfl ?_) | refine idx_sl (at_map (by assumption)) (by omega) ?_ | refine idx_ms _ (by first | rfl | assumption) (by first | assumption | omega) ?_ | fail); repeat (any_goals (first | (change forceH T _; refine forceH_in ?_) | (change forceH (List.set T _ none) _; refine forceH_in ?_)); repeat' (first | (exact (rfl : allOne _ = true)) | exact trivial | (refine (?_ : _ ≠ _); omega) | (refine (?_ : srcLen _ = rowsLen _); rfl) | (intro h; exact absurd h (Nat.succ_ne_zero _)) | (intro h; exact absurd h (Nat.not_lt_zero _))  | (exact (Nat.le_of_ble_eq_true rfl)) | (exact (by kernel_rfl : drawOk _ _ = true)) | refine ops_cons ?_ | refine ops_nil ?_ | refine opsD_cons ?_ | refine opsD_nil ?_ | refine any_step ?_ | refine any_nil ?_ | refine code_seq ?_ | refine code_cond ?_ | refine code_block ?_ | refine code_scope ?_ | refine code_skip ?_ | refine code_ret ?_ | refine code_exit ?_ | (refine And.intro ?_ ?_) | (intro h; first | exact Bool.noConfusion h | (simp at h; done) | simp at h | skip) | refine eqv_len_map ?_ | refine eqv_zero ?_ | refine eqv_wrap (by omega) (by omega) ?_ | refine eqv_to _ (set_map rfl rfl) ?_ | refine ⟨_, _, (by first | rfl | assumption), at_map (by assumption), ?_⟩ | refine ⟨_, at_map (by assumption), (by decide), ?_⟩ | refine ⟨_, at_map (by assumption), ?_⟩ | (refine (?_ : _ ≤ 140737488355328); simp [rowsLen] <;> omega) | (refine (?_ : _ ≤ 9223372036854775807); simp [rowsLen] <;> omega) | (refine (?_ : _ = rowsLen _); simp [rowsLen] <;> omega) | refine eqv_to _ (app_row rfl) (eqv_to _ app_len ?_) | refine eqv_to _ (app_first rfl) (eqv_to 1 rfl ?_) | refine idx_sl (at_map (by assumption)) (by omega) ?_ | refine idx_ms _ (by first | rfl | assumption) (by first | assumption | omega) ?_ | fail))
    all_goals first
      | (have same : e.fr = e.to := by assumption
         refine code_region ?_
         repeat' (first | (exact (rfl : allOne _ = true)) | exact trivial | (refine (?_ : _ ≠ _); omega) | (refine (?_ : srcLen _ = rowsLen _); rfl) | (intro h; exact absurd h (Nat.succ_ne_zero _)) | (intro h; exact absurd h (Nat.not_lt_zero _))  | (exact (Nat.le_of_ble_eq_true rfl)) | (exact (by kernel_rfl : drawOk _ _ = true)) | refine ops_cons ?_ | refine ops_nil ?_ | refine opsD_cons ?_ | refine opsD_nil ?_ | refine any_step ?_ | refine any_nil ?_ | refine code_seq ?_ | refine code_cond ?_ | refine code_block ?_ | refine code_scope ?_ | refine code_skip ?_ | refine code_ret ?_ | refine code_exit ?_ | (refine And.intro ?_ ?_) | (intro h; first | exact Bool.noConfusion h | (simp at h; done) | simp at h | skip) | refine eqv_len_map ?_ | refine eqv_zero ?_ | refine eqv_wrap (by omega) (by omega) ?_ | refine eqv_to _ (set_map rfl rfl) ?_ | refine ⟨_, _, (by first | rfl | assumption), at_map (by assumption), ?_⟩ | refine ⟨_, at_map (by assumption), (by decide), ?_⟩ | refine ⟨_, at_map (by assumption), ?_⟩ | (refine (?_ : _ ≤ 140737488355328); simp [rowsLen] <;> omega) | (refine (?_ : _ ≤ 9223372036854775807); simp [rowsLen] <;> omega) | (refine (?_ : _ = rowsLen _); simp [rowsLen] <;> omega) | refine eqv_to _ (app_row rfl) (eqv_to _ app_len ?_) | refine eqv_to _ (app_first rfl) (eqv_to 1 rfl ?_) | refine idx_sl (at_map (by assumption)) (by omega) ?_ | refine idx_ms _ (by first | rfl | assumption) (by first | assumption | omega) ?_ | fail); repeat (any_goals (first | (change forceH T _; refine forceH_in ?_) | (change forceH (List.set T _ none) _; refine forceH_in ?_)); repeat' (first | (exact (rfl : allOne _ = true)) | exact trivial | (refine (?_ : _ ≠ _); omega) | (refine (?_ : srcLen _ = rowsLen _); rfl) | (intro h; exact absurd h (Nat.succ_ne_zero _)) | (intro h; exact absurd h (Nat.not_lt_zero _))  | (exact (Nat.le_of_ble_eq_true rfl)) | (exact (by kernel_rfl : drawOk _ _ = true)) | refine ops_cons ?_ | refine ops_nil ?_ | refine opsD_cons ?_ | refine opsD_nil ?_ | refine any_step ?_ | refine any_nil ?_ | refine code_seq ?_ | refine code_cond ?_ | refine code_block ?_ | refine code_scope ?_ | refine code_skip ?_ | refine code_ret ?_ | refine code_exit ?_ | (refine And.intro ?_ ?_) | (intro h; first | exact Bool.noConfusion h | (simp at h; done) | simp at h | skip) | refine eqv_len_map ?_ | refine eqv_zero ?_ | refine eqv_wrap (by omega) (by omega) ?_ | refine eqv_to _ (set_map rfl rfl) ?_ | refine ⟨_, _, (by first | rfl | assumption), at_map (by assumption), ?_⟩ | refine ⟨_, at_map (by assumption), (by decide), ?_⟩ | refine ⟨_, at_map (by assumption), ?_⟩ | (refine (?_ : _ ≤ 140737488355328); simp [rowsLen] <;> omega) | (refine (?_ : _ ≤ 9223372036854775807); simp [rowsLen] <;> omega) | (refine (?_ : _ = rowsLen _); simp [rowsLen] <;> omega) | refine eqv_to _ (app_row rfl) (eqv_to _ app_len ?_) | refine eqv_to _ (app_first rfl) (eqv_to 1 rfl ?_) | refine idx_sl (at_map (by assumption)) (by omega) ?_ | refine idx_ms _ (by first | rfl | assumption) (by first | assumption | omega) ?_ | fail))
         refine ⟨(i + 1, A, f.set i y), ⟨by rw [hy]; exact hb.self he same, by dsimp only; omega⟩, by dsimp only; omega, rnB N (10 + N) N (15 + N), rnB_allD (.inr rfl) (.inr rfl), rfl, ?_, rfl, rfl, rfl, rfl, trivial⟩
         refine And.intro rfl (And.intro rfl (And.intro ?_ (And.intro ?_ (And.intro rfl (rows_kept hAl hT fun j o h => h)))))
         · show some (some (⟨3, 1, false, .p (encS (sumsOf N z))⟩ : AObj)) = some (some ⟨3, 1, false, .p (encS (sumsOf N (List.take (i+1) (n.es.zip (f.set i y)))))⟩)
           rw [hz, sums_self same]
         · show some (some (⟨60, 1, false, .m (cellsA 10 A)⟩ : AObj)) = some (some ⟨60, 1, false, .m ((cellsA 10 A).map (renL _ _))⟩)
           rw [cellsA_ren A 10 10 (fun j hj => rnB_same j (by omega) _)])
      | skip
    all_goals
      have hne : ¬ e.fr = e.to := by assumption
      have hab : a ≠ b := fun k => hne (by rw [ha, hbb, k])
      have hga : (sumsOf N z)[a]? = some (exc z a) := sums_get haN
      have hgb : ((sumsOf N z).set a (exc z a + y))[b]? = some (exc z b) := by rw [sums_get2 hbN, if_neg hab]
      have hst := sums_step (z := z) (e := e) (f := y) ha hbb haN hbN
      rw [hgb] at hst
      have hst : ((sumsOf N z).set a (exc z a + y)).set b (exc z b - y) = sumsOf N (z ++ [(e, y)]) := hst
      refine code_region ?_
      repeat' (first | (exact (rfl : allOne _ = true)) | exact trivial | (refine (?_ : _ ≠ _); omega) | (refine (?_ : srcLen _ = rowsLen _); rfl) | (intro h; exact absurd h (Nat.succ_ne_zero _)) | (intro h; exact absurd h (Nat.not_lt_zero _))  | (exact (Nat.le_of_ble_eq_true rfl)) | (exact (by kernel_rfl : drawOk _ _ = true)) | refine ops_cons ?_ | refine ops_nil ?_ | refine opsD_cons ?_ | refine opsD_nil ?_ | refine any_step ?_ | refine any_nil ?_ | refine code_seq ?_ | refine code_cond ?_ | refine code_block ?_ | refine code_scope ?_ | refine code_skip ?_ | refine code_ret ?_ | refine code_exit ?_ | (refine And.intro ?_ ?_) | (intro h; first | exact Bool.noConfusion h | (simp at h; done) | simp at h | skip) | refine eqv_len_map ?_ | refine eqv_zero ?_ | refine eqv_wrap (by omega) (by omega) ?_ | refine eqv_to _ (set_map rfl rfl) ?_ | refine ⟨_, _, (by first | rfl | assumption), at_map (by assumption), ?_⟩ | refine ⟨_, at_map (by assumption), (by decide), ?_⟩ | refine ⟨_, at_map (by assumption), ?_⟩ | (refine (?_ : _ ≤ 140737488355328); simp [rowsLen] <;> omega) | (refine (?_ : _ ≤ 9223372036854775807); simp [rowsLen] <;> omega) | (refine (?_ : _ = rowsLen _); simp [rowsLen] <;> omega) | refine eqv_to _ (app_row rfl) (eqv_to _ app_len ?_) | refine eqv_to _ (app_first rfl) (eqv_to 1 rfl ?_) | refine idx_sl (at_map (by assumption)) (by omega) ?_ | refine idx_ms _ (by first | rfl | assumption) (by first | assumption | omega) ?_ | fail); repeat (any_goals (first | (change forceH T _; refine forceH_in ?_) | (change forceH (List.set T _ none) _; refine forceH_in ?_)); repeat' (first | (exact (rfl : allOne _ = true)) | exact trivial | (refine (?_ : _ ≠ _); omega) | (refine (?_ : srcLen _ = rowsLen _); rfl) | (intro h; exact absurd h (Nat.succ_ne_zero _)) | (intro h; exact absurd h (Nat.not_lt_zero _))  | (exact (Nat.le_of_ble_eq_true rfl)) | (exact (by kernel_rfl : drawOk _ _ = true)) | refine ops_cons ?_ | refine ops_nil ?_ | refine opsD_cons ?_ | refine opsD_nil ?_ | refine any_step ?_ | refine any_nil ?_ | refine code_seq ?_ | refine code_cond ?_ | refine code_block ?_ | refine code_scope ?_ | refine code_skip ?_ | refine code_ret ?_ | refine code_exit ?_ | (refine And.intro ?_ ?_) | (intro h; first | exact Bool.noConfusion h | (simp at h; done) | simp at h | skip) | refine eqv_len_map ?_ | refine eqv_zero ?_ | refine eqv_wrap (by omega) (by omega) ?_ | refine eqv_to _ (set_map rfl rfl) ?_ | refine ⟨_, _, (by first | rfl | assumption), at_map (by assumption), ?_⟩ | refine ⟨_, at_map (by assumption), (by decide), ?_⟩ | refine ⟨_, at_map (by assumption), ?_⟩ | (refine (?_ : _ ≤ 140737488355328); simp [rowsLen] <;> omega) | (refine (?_ : _ ≤ 9223372036854775807); simp [rowsLen] <;> omega) | (refine (?_ : _ = rowsLen _); simp [rowsLen] <;> omega) | refine eqv_to _ (app_row rfl) (eqv_to _ app_len ?_) | refine eqv_to _ (app_first rfl) (eqv_to 1 rfl ?_) | refine idx_sl (at_map (by assumption)) (by omega) ?_ | refine idx_ms _ (by first | rfl | assumption) (by first | assumption | omega) ?_ | fail))
      refine code_region ?_
      repeat' (first | (exact (rfl : allOne _ = true)) | exact trivial | (refine (?_ : _ ≠ _); omega) | (refine (?_ : srcLen _ = rowsLen _); rfl) | (intro h; exact absurd h (Nat.succ_ne_zero _)) | (intro h; exact absurd h (Nat.not_lt_zero _))  | (exact (Nat.le_of_ble_eq_true rfl)) | (exact (by kernel_rfl : drawOk _ _ = true)) | refine ops_cons ?_ | refine ops_nil ?_ | refine opsD_cons ?_ | refine opsD_nil ?_ | refine any_step ?_ | refine any_nil ?_ | refine code_seq ?_ | refine code_cond ?_ | refine code_block ?_ | refine code_scope ?_ | refine code_skip ?_ | refine code_ret ?_ | refine code_exit ?_ | (refine And.intro ?_ ?_) | (intro h; first | exact Bool.noConfusion h | (simp at h; done) | simp at h | skip) | refine eqv_len_map ?_ | refine eqv_zero ?_ | refine eqv_wrap (by omega) (by omega) ?_ | refine eqv_to _ (set_map rfl rfl) ?_ | refine ⟨_, _, (by first | rfl | assumption), at_map (by assumption), ?_⟩ | refine ⟨_, at_map (by assumption), (by decide), ?_⟩ | refine ⟨_, at_map (by assumption), ?_⟩ | (refine (?_ : _ ≤ 140737488355328); simp [rowsLen] <;> omega) | (refine (?_ : _ ≤ 9223372036854775807); simp [rowsLen] <;> omega) | (refine (?_ : _ = rowsLen _); simp [rowsLen] <;> omega) | refine eqv_to _ (app_row rfl) (eqv_to _ app_len ?_) | refine eqv_to _ (app_first rfl) (eqv_to 1 rfl ?_) | refine idx_sl (at_map (by assumption)) (by omega) ?_ | refine idx_ms _ (by first | rfl | assumption) (by first | assumption | omega) ?_ | fail); repeat (any_goals (first | (change forceH T _; refine forceH_in ?_) | (change forceH (List.set T _ none) _; refine forceH_in ?_)); repeat' (first | (exact (rfl : allOne _ = true)) | exact trivial | (refine (?_ : _ ≠ _); omega) | (refine (?_ : srcLen _ = rowsLen _); rfl) | (intro h; exact absurd h (Nat.succ_ne_zero _)) | (intro h; exact absurd h (Nat.not_lt_zero _))  | (exact (Nat.le_of_ble_eq_true rfl)) | (exact (by kernel_rfl : drawOk _ _ = true)) | refine ops_cons ?_ | refine ops_nil ?_ | refine opsD_cons ?_ | refine opsD_nil ?_ | refine any_step ?_ | refine any_nil ?_ | refine code_seq ?_ | refine code_cond ?_ | refine code_block ?_ | refine code_scope ?_ | refine code_skip ?_ | refine code_ret ?_ | refine code_exit ?_ | (refine And.intro ?_ ?_) | (intro h; first | exact Bool.noConfusion h | (simp at h; done) | simp at h | skip) | refine eqv_len_map ?_ | refine eqv_zero ?_ | refine eqv_wrap (by omega) (by omega) ?_ | refine eqv_to _ (set_map rfl rfl) ?_ | refine ⟨_, _, (by first | rfl | assumption), at_map (by assumption), ?_⟩ | refine ⟨_, at_map (by assumption), (by decide), ?_⟩ | refine ⟨_, at_map (by assumption), ?_⟩ | (refine (?_ : _ ≤ 140737488355328); simp [rowsLen] <;> omega) | (refine (?_ : _ ≤ 9223372036854775807); simp [rowsLen] <;> omega) | (refine (?_ : _ = rowsLen _); simp [rowsLen] <;> omega) | refine eqv_to _ (app_row rfl) (eqv_to _ app_len ?_) | refine eqv_to _ (app_first rfl) (eqv_to 1 rfl ?_) | refine idx_sl (at_map (by assumption)) (by omega) ?_ | refine idx_ms _ (by first | rfl | assumption) (by first | assumption | omega) ?_ | fail))
      rw [hst]
      refine ghost_region (Ghost.ref (S := JC n N i A f e y z T _ _ _) ⟨rnB N 5 N (15 + N), rnB_allD (.inl rfl) (.inr rfl), rfl, And.intro rfl (And.intro rfl (And.intro rfl (And.intro ?_ (And.intro rfl (And.intro rfl (rows_keptT hAl hT fun j o h => h)))))), rfl, rfl, rfl, rfl, rfl, rfl, trivial⟩) ?_
      · show some (some (⟨60, 1, false, .m (cellsA 10 A)⟩ : AObj)) = some (some ⟨60, 1, false, .m ((cellsA 10 A).map (renL _ _))⟩)
        rw [cellsA_ren A 10 10 (fun j hj => rnB_same j (by omega) _)]
      dsimp only [JC]
      refine code_region_atD (k := 6) (GhostF.room (Nat.zero_le _) (Nat.le_add_left _ _) (fun _ _ h => h) rfl ⟨.inl (by decide), rfl, .inl (by decide), trivial, .inl (by decide), trivial, .inl (by decide), hfarA 6 2 (by decide), .inl (by decide), rfl, .inl (by decide), rfl, hfarT 6 2 (by decide)⟩) ?_
      have hgc := cellsA_get10 (A := A) (u := b) (by omega)
      have hTb : T[b]? = some (rowO (A.getD b [])) := by rw [← hT]; exact rowsA_get A b (by omega)
      generalize hAb : A.getD b [] = lb at *
      have hsh := hb.short b
      rw [hAb] at hsh
      rcases lb with _ | ⟨c0, lb⟩
      all_goals simp only [List.length_cons, List.length_nil] at hsh
    all_goals
      repeat' (first | (exact (rfl : allOne _ = true)) | exact trivial | (refine (?_ : _ ≠ _); omega) | (refine (?_ : srcLen _ = rowsLen _); rfl) | (intro h; exact absurd h (Nat.succ_ne_zero _)) | (intro h; exact absurd h (Nat.not_lt_zero _))  | (exact (Nat.le_of_ble_eq_true rfl)) | (exact (by kernel_rfl : drawOk _ _ = true)) | refine ops_cons ?_ | refine ops_nil ?_ | refine opsD_cons ?_ | refine opsD_nil ?_ | refine any_step ?_ | refine any_nil ?_ | refine code_seq ?_ | refine code_cond ?_ | refine code_block ?_ | refine code_scope ?_ | refine code_skip ?_ | refine code_ret ?_ | refine code_exit ?_ | (refine And.intro ?_ ?_) | (intro h; first | exact Bool.noConfusion h | (simp at h; done) | simp at h | skip) | refine eqv_len_map ?_ | refine eqv_zero ?_ | refine eqv_wrap (by omega) (by omega) ?_ | refine eqv_to _ (set_map rfl rfl) ?_ | refine ⟨_, _, (by first | rfl | assumption), at_map (by assumption), ?_⟩ | refine ⟨_, at_map (by assumption), (by decide), ?_⟩ | refine ⟨_, at_map (by assumption), ?_⟩ | (refine (?_ : _ ≤ 140737488355328); simp [rowsLen] <;> omega) | (refine (?_ : _ ≤ 9223372036854775807); simp [rowsLen] <;> omega) | (refine (?_ : _ = rowsLen _); simp [rowsLen] <;> omega) | refine eqv_to _ (app_row rfl) (eqv_to _ app_len ?_) | refine eqv_to _ (app_first rfl) (eqv_to 1 rfl ?_) | refine idx_sl (at_map (by assumption)) (by omega) ?_ | refine idx_ms _ (by first | rfl | assumption) (by first | assumption | omega) ?_ | fail); repeat (any_goals (first | (change forceH T _; refine forceH_in ?_) | (change forceH (List.set T _ none) _; refine forceH_in ?_)); repeat' (first | (exact (rfl : allOne _ = true)) | exact trivial | (refine (?_ : _ ≠ _); omega) | (refine (?_ : srcLen _ = rowsLen _); rfl) | (intro h; exact absurd h (Nat.succ_ne_zero _)) | (intro h; exact absurd h (Nat.not_lt_zero _))  | (exact (Nat.le_of_ble_eq_true rfl)) | (exact (by kernel_rfl : drawOk _ _ = true)) | refine ops_cons ?_ | refine ops_nil ?_ | refine opsD_cons ?_ | refine opsD_nil ?_ | refine any_step ?_ | refine any_nil ?_ | refine code_seq ?_ | refine code_cond ?_ | refine code_block ?_ | refine code_scope ?_ | refine code_skip ?_ | refine code_ret ?_ | refine code_exit ?_ | (refine And.intro ?_ ?_) | (intro h; first | exact Bool.noConfusion h | (simp at h; done) | simp at h | skip) | refine eqv_len_map ?_ | refine eqv_zero ?_ | refine eqv_wrap (by omega) (by omega) ?_ | refine eqv_to _ (set_map rfl rfl) ?_ | refine ⟨_, _, (by first | rfl | assumption), at_map (by assumption), ?_⟩ | refine ⟨_, at_map (by assumption), (by decide), ?_⟩ | refine ⟨_, at_map (by assumption), ?_⟩ | (refine (?_ : _ ≤ 140737488355328); simp [rowsLen] <;> omega) | (refine (?_ : _ ≤ 9223372036854775807); simp [rowsLen] <;> omega) | (refine (?_ : _ = rowsLen _); simp [rowsLen] <;> omega) | refine eqv_to _ (app_row rfl) (eqv_to _ app_len ?_) | refine eqv_to _ (app_first rfl) (eqv_to 1 rfl ?_) | refine idx_sl (at_map (by assumption)) (by omega) ?_ | refine idx_ms _ (by first | rfl | assumption) (by first | assumption | omega) ?_ | fail))
      refine ⟨_, hgc, ?_⟩
      repeat' (first | (exact (rfl : allOne _ = true)) | exact trivial | (refine (?_ : _ ≠ _); omega) | (refine (?_ : srcLen _ = rowsLen _); rfl) | (intro h; exact absurd h (Nat.succ_ne_zero _)) | (intro h; exact absurd h (Nat.not_lt_zero _))  | (exact (Nat.le_of_ble_eq_true rfl)) | (exact (by kernel_rfl : drawOk _ _ = true)) | refine ops_cons ?_ | refine ops_nil ?_ | refine opsD_cons ?_ | refine opsD_nil ?_ | refine any_step ?_ | refine any_nil ?_ | refine code_seq ?_ | refine code_cond ?_ | refine code_block ?_ | refine code_scope ?_ | refine code_skip ?_ | refine code_ret ?_ | refine code_exit ?_ | (refine And.intro ?_ ?_) | (intro h; first | exact Bool.noConfusion h | (simp at h; done) | simp at h | skip) | refine eqv_len_map ?_ | refine eqv_zero ?_ | refine eqv_wrap (by omega) (by omega) ?_ | refine eqv_to _ (set_map rfl rfl) ?_ | refine ⟨_, _, (by first | rfl | assumption), at_map (by assumption), ?_⟩ | refine ⟨_, at_map (by assumption), (by decide), ?_⟩ | refine ⟨_, at_map (by assumption), ?_⟩ | (refine (?_ : _ ≤ 140737488355328); simp [rowsLen] <;> omega) | (refine (?_ : _ ≤ 9223372036854775807); simp [rowsLen] <;> omega) | (refine (?_ : _ = rowsLen _); simp [rowsLen] <;> omega) | refine eqv_to _ (app_row rfl) (eqv_to _ app_len ?_) | refine eqv_to _ (app_first rfl) (eqv_to 1 rfl ?_) | refine idx_sl (at_map (by assumption)) (by omega) ?_ | refine idx_ms _ (by first | rfl | assumption) (by first | assumption | omega) ?_ | fail); repeat (any_goals (first | (change forceH T _; refine forceH_in ?_) | (change forceH (List.set T _ none) _; refine forceH_in ?_)); repeat' (first | (exact (rfl : allOne _ = true)) | exact trivial | (refine (?_ : _ ≠ _); omega) | (refine (?_ : srcLen _ = rowsLen _); rfl) | (intro h; exact absurd h (Nat.succ_ne_zero _)) | (intro h; exact absurd h (Nat.not_lt_zero _))  | (exact (Nat.le_of_ble_eq_true rfl)) | (exact (by kernel_rfl : drawOk _ _ = true)) | refine ops_cons ?_ | refine ops_nil ?_ | refine opsD_cons ?_ | refine opsD_nil ?_ | refine any_step ?_ | refine any_nil ?_ | refine code_seq ?_ | refine code_cond ?_ | refine code_block ?_ | refine code_scope ?_ | refine code_skip ?_ | refine code_ret ?_ | refine code_exit ?_ | (refine And.intro ?_ ?_) | (intro h; first | exact Bool.noConfusion h | (simp at h; done) | simp at h | skip) | refine eqv_len_map ?_ | refine eqv_zero ?_ | refine eqv_wrap (by omega) (by omega) ?_ | refine eqv_to _ (set_map rfl rfl) ?_ | refine ⟨_, _, (by first | rfl | assumption), at_map (by assumption), ?_⟩ | refine ⟨_, at_map (by assumption), (by decide), ?_⟩ | refine ⟨_, at_map (by assumption), ?_⟩ | (refine (?_ : _ ≤ 140737488355328); simp [rowsLen] <;> omega) | (refine (?_ : _ ≤ 9223372036854775807); simp [rowsLen] <;> omega) | (refine (?_ : _ = rowsLen _); simp [rowsLen] <;> omega) | refine eqv_to _ (app_row rfl) (eqv_to _ app_len ?_) | refine eqv_to _ (app_first rfl) (eqv_to 1 rfl ?_) | refine idx_sl (at_map (by assumption)) (by omega) ?_ | refine idx_ms _ (by first | rfl | assumption) (by first | assumption | omega) ?_ | fail))
    all_goals first
      | (refine ⟨_, hgc, Nat.le_refl _, eqv_rfl ?_⟩
         repeat' (first | (exact (rfl : allOne _ = true)) | exact trivial | (refine (?_ : _ ≠ _); omega) | (refine (?_ : srcLen _ = rowsLen _); rfl) | (intro h; exact absurd h (Nat.succ_ne_zero _)) | (intro h; exact absurd h (Nat.not_lt_zero _))  | (exact (Nat.le_of_ble_eq_true rfl)) | (exact (by kernel_rfl : drawOk _ _ = true)) | refine ops_cons ?_ | refine ops_nil ?_ | refine opsD_cons ?_ | refine opsD_nil ?_ | refine any_step ?_ | refine any_nil ?_ | refine code_seq ?_ | refine code_cond ?_ | refine code_block ?_ | refine code_scope ?_ | refine code_skip ?_ | refine code_ret ?_ | refine code_exit ?_ | (refine And.intro ?_ ?_) | (intro h; first | exact Bool.noConfusion h | (simp at h; done) | simp at h | skip) | refine eqv_len_map ?_ | refine eqv_zero ?_ | refine eqv_wrap (by omega) (by omega) ?_ | refine eqv_to _ (set_map rfl rfl) ?_ | refine ⟨_, _, (by first | rfl | assumption), at_map (by assumption), ?_⟩ | refine ⟨_, at_map (by assumption), (by decide), ?_⟩ | refine ⟨_, at_map (by assumption), ?_⟩ | (refine (?_ : _ ≤ 140737488355328); simp [rowsLen] <;> omega) | (refine (?_ : _ ≤ 9223372036854775807); simp [rowsLen] <;> omega) | (refine (?_ : _ = rowsLen _); simp [rowsLen] <;> omega) | refine eqv_to _ (app_row rfl) (eqv_to _ app_len ?_) | refine eqv_to _ (app_first rfl) (eqv_to 1 rfl ?_) | refine idx_sl (at_map (by assumption)) (by omega) ?_ | refine idx_ms _ (by first | rfl | assumption) (by first | assumption | omega) ?_ | fail)
         (conv => whnf); refine forceH_in ?_
         repeat' (first | (exact (rfl : allOne _ = true)) | exact trivial | (refine (?_ : _ ≠ _); omega) | (refine (?_ : srcLen _ = rowsLen _); rfl) | (intro h; exact absurd h (Nat.succ_ne_zero _)) | (intro h; exact absurd h (Nat.not_lt_zero _))  | (exact (Nat.le_of_ble_eq_true rfl)) | (exact (by kernel_rfl : drawOk _ _ = true)) | refine ops_cons ?_ | refine ops_nil ?_ | refine opsD_cons ?_ | refine opsD_nil ?_ | refine any_step ?_ | refine any_nil ?_ | refine code_seq ?_ | refine code_cond ?_ | refine code_block ?_ | refine code_scope ?_ | refine code_skip ?_ | refine code_ret ?_ | refine code_exit ?_ | (refine And.intro ?_ ?_) | (intro h; first | exact Bool.noConfusion h | (simp at h; done) | simp at h | skip) | refine eqv_len_map ?_ | refine eqv_zero ?_ | refine eqv_wrap (by omega) (by omega) ?_ | refine eqv_to _ (set_map rfl rfl) ?_ | refine ⟨_, _, (by first | rfl | assumption), at_map (by assumption), ?_⟩ | refine ⟨_, at_map (by assumption), (by decide), ?_⟩ | refine ⟨_, at_map (by assumption), ?_⟩ | (refine (?_ : _ ≤ 140737488355328); simp [rowsLen] <;> omega) | (refine (?_ : _ ≤ 9223372036854775807); simp [rowsLen] <;> omega) | (refine (?_ : _ = rowsLen _); simp [rowsLen] <;> omega) | refine eqv_to _ (app_row rfl) (eqv_to _ app_len ?_) | refine eqv_to _ (app_first rfl) (eqv_to 1 rfl ?_) | refine idx_sl (at_map (by assumption)) (by omega) ?_ | refine idx_ms _ (by first | rfl | assumption) (by first | assumption | omega) ?_ | fail); repeat (any_goals (first | (change forceH T _; refine forceH_in ?_) | (change forceH (List.set T _ none) _; refine forceH_in ?_)); repeat' (first | (exact (rfl : allOne _ = true)) | exact trivial | (refine (?_ : _ ≠ _); omega) | (refine (?_ : srcLen _ = rowsLen _); rfl) | (intro h; exact absurd h (Nat.succ_ne_zero _)) | (intro h; exact absurd h (Nat.not_lt_zero _))  | (exact (Nat.le_of_ble_eq_true rfl)) | (exact (by kernel_rfl : drawOk _ _ = true)) | refine ops_cons ?_ | refine ops_nil ?_ | refine opsD_cons ?_ | refine opsD_nil ?_ | refine any_step ?_ | refine any_nil ?_ | refine code_seq ?_ | refine code_cond ?_ | refine code_block ?_ | refine code_scope ?_ | refine code_skip ?_ | refine code_ret ?_ | refine code_exit ?_ | (refine And.intro ?_ ?_) | (intro h; first | exact Bool.noConfusion h | (simp at h; done) | simp at h | skip) | refine eqv_len_map ?_ | refine eqv_zero ?_ | refine eqv_wrap (by omega) (by omega) ?_ | refine eqv_to _ (set_map rfl rfl) ?_ | refine ⟨_, _, (by first | rfl | assumption), at_map (by assumption), ?_⟩ | refine ⟨_, at_map (by assumption), (by decide), ?_⟩ | refine ⟨_, at_map (by assumption), ?_⟩ | (refine (?_ : _ ≤ 140737488355328); simp [rowsLen] <;> omega) | (refine (?_ : _ ≤ 9223372036854775807); simp [rowsLen] <;> omega) | (refine (?_ : _ = rowsLen _); simp [rowsLen] <;> omega) | refine eqv_to _ (app_row rfl) (eqv_to _ app_len ?_) | refine eqv_to _ (app_first rfl) (eqv_to 1 rfl ?_) | refine idx_sl (at_map (by assumption)) (by omega) ?_ | refine idx_ms _ (by first | rfl | assumption) (by first | assumption | omega) ?_ | fail)))
      | ((conv => whnf)
         simp only [List.getElem?_cons_succ, hTb]
         repeat' (first | (exact (rfl : allOne _ = true)) | exact trivial | (refine (?_ : _ ≠ _); omega) | (refine (?_ : srcLen _ = rowsLen _); rfl) | (intro h; exact absurd h (Nat.succ_ne_zero _)) | (intro h; exact absurd h (Nat.not_lt_zero _))  | (exact (Nat.le_of_ble_eq_true rfl)) | (exact (by kernel_rfl : drawOk _ _ = true)) | refine ops_cons ?_ | refine ops_nil ?_ | refine opsD_cons ?_ | refine opsD_nil ?_ | refine any_step ?_ | refine any_nil ?_ | refine code_seq ?_ | refine code_cond ?_ | refine code_block ?_ | refine code_scope ?_ | refine code_skip ?_ | refine code_ret ?_ | refine code_exit ?_ | (refine And.intro ?_ ?_) | (intro h; first | exact Bool.noConfusion h | (simp at h; done) | simp at h | skip) | refine eqv_len_map ?_ | refine eqv_zero ?_ | refine eqv_wrap (by omega) (by omega) ?_ | refine eqv_to _ (set_map rfl rfl) ?_ | refine ⟨_, _, (by first | rfl | assumption), at_map (by assumption), ?_⟩ | refine ⟨_, at_map (by assumption), (by decide), ?_⟩ | refine ⟨_, at_map (by assumption), ?_⟩ | (refine (?_ : _ ≤ 140737488355328); simp [rowsLen] <;> omega) | (refine (?_ : _ ≤ 9223372036854775807); simp [rowsLen] <;> omega) | (refine (?_ : _ = rowsLen _); simp [rowsLen] <;> omega) | refine eqv_to _ (app_row rfl) (eqv_to _ app_len ?_) | refine eqv_to _ (app_first rfl) (eqv_to 1 rfl ?_) | refine idx_sl (at_map (by assumption)) (by omega) ?_ | refine idx_ms _ (by first | rfl | assumption) (by first | assumption | omega) ?_ | fail)
         refine eqv_to _ (app_row (y := (i, false)) rfl) (eqv_to ((c0 :: lb) ++ [(i, false)]).length app_len ?_)
         (conv => whnf); refine forceH_in ?_
         repeat' (first | (exact (rfl : allOne _ = true)) | exact trivial | (refine (?_ : _ ≠ _); omega) | (refine (?_ : srcLen _ = rowsLen _); rfl) | (intro h; exact absurd h (Nat.succ_ne_zero _)) | (intro h; exact absurd h (Nat.not_lt_zero _))  | (exact (Nat.le_of_ble_eq_true rfl)) | (exact (by kernel_rfl : drawOk _ _ = true)) | refine ops_cons ?_ | refine ops_nil ?_ | refine opsD_cons ?_ | refine opsD_nil ?_ | refine any_step ?_ | refine any_nil ?_ | refine code_seq ?_ | refine code_cond ?_ | refine code_block ?_ | refine code_scope ?_ | refine code_skip ?_ | refine code_ret ?_ | refine code_exit ?_ | (refine And.intro ?_ ?_) | (intro h; first | exact Bool.noConfusion h | (simp at h; done) | simp at h | skip) | refine eqv_len_map ?_ | refine eqv_zero ?_ | refine eqv_wrap (by omega) (by omega) ?_ | refine eqv_to _ (set_map rfl rfl) ?_ | refine ⟨_, _, (by first | rfl | assumption), at_map (by assumption), ?_⟩ | refine ⟨_, at_map (by assumption), (by decide), ?_⟩ | refine ⟨_, at_map (by assumption), ?_⟩ | (refine (?_ : _ ≤ 140737488355328); simp [rowsLen] <;> omega) | (refine (?_ : _ ≤ 9223372036854775807); simp [rowsLen] <;> omega) | (refine (?_ : _ = rowsLen _); simp [rowsLen] <;> omega) | refine eqv_to _ (app_row rfl) (eqv_to _ app_len ?_) | refine eqv_to _ (app_first rfl) (eqv_to 1 rfl ?_) | refine idx_sl (at_map (by assumption)) (by omega) ?_ | refine idx_ms _ (by first | rfl | assumption) (by first | assumption | omega) ?_ | fail)
         refine ⟨_, hgc, Nat.le_refl _, eqv_rfl ?_⟩
         repeat' (first | (exact (rfl : allOne _ = true)) | exact trivial | (refine (?_ : _ ≠ _); omega) | (refine (?_ : srcLen _ = rowsLen _); rfl) | (intro h; exact absurd h (Nat.succ_ne_zero _)) | (intro h; exact absurd h (Nat.not_lt_zero _))  | (exact (Nat.le_of_ble_eq_true rfl)) | (exact (by kernel_rfl : drawOk _ _ = true)) | refine ops_cons ?_ | refine ops_nil ?_ | refine opsD_cons ?_ | refine opsD_nil ?_ | refine any_step ?_ | refine any_nil ?_ | refine code_seq ?_ | refine code_cond ?_ | refine code_block ?_ | refine code_scope ?_ | refine code_skip ?_ | refine code_ret ?_ | refine code_exit ?_ | (refine And.intro ?_ ?_) | (intro h; first | exact Bool.noConfusion h | (simp at h; done) | simp at h | skip) | refine eqv_len_map ?_ | refine eqv_zero ?_ | refine eqv_wrap (by omega) (by omega) ?_ | refine eqv_to _ (set_map rfl rfl) ?_ | refine ⟨_, _, (by first | rfl | assumption), at_map (by assumption), ?_⟩ | refine ⟨_, at_map (by assumption), (by decide), ?_⟩ | refine ⟨_, at_map (by assumption), ?_⟩ | (refine (?_ : _ ≤ 140737488355328); simp [rowsLen] <;> omega) | (refine (?_ : _ ≤ 9223372036854775807); simp [rowsLen] <;> omega) | (refine (?_ : _ = rowsLen _); simp [rowsLen] <;> omega) | refine eqv_to _ (app_row rfl) (eqv_to _ app_len ?_) | refine eqv_to _ (app_first rfl) (eqv_to 1 rfl ?_) | refine idx_sl (at_map (by assumption)) (by omega) ?_ | refine idx_ms _ (by first | rfl | assumption) (by first | assumption | omega) ?_ | fail)
         (conv => whnf); refine forceH_in ?_
         repeat' (first | (exact (rfl : allOne _ = true)) | exact trivial | (refine (?_ : _ ≠ _); omega) | (refine (?_ : srcLen _ = rowsLen _); rfl) | (intro h; exact absurd h (Nat.succ_ne_zero _)) | (intro h; exact absurd h (Nat.not_lt_zero _))  | (exact (Nat.le_of_ble_eq_true rfl)) | (exact (by kernel_rfl : drawOk _ _ = true)) | refine ops_cons ?_ | refine ops_nil ?_ | refine opsD_cons ?_ | refine opsD_nil ?_ | refine any_step ?_ | refine any_nil ?_ | refine code_seq ?_ | refine code_cond ?_ | refine code_block ?_ | refine code_scope ?_ | refine code_skip ?_ | refine code_ret ?_ | refine code_exit ?_ | (refine And.intro ?_ ?_) | (intro h; first | exact Bool.noConfusion h | (simp at h; done) | simp at h | skip) | refine eqv_len_map ?_ | refine eqv_zero ?_ | refine eqv_wrap (by omega) (by omega) ?_ | refine eqv_to _ (set_map rfl rfl) ?_ | refine ⟨_, _, (by first | rfl | assumption), at_map (by assumption), ?_⟩ | refine ⟨_, at_map (by assumption), (by decide), ?_⟩ | refine ⟨_, at_map (by assumption), ?_⟩ | (refine (?_ : _ ≤ 140737488355328); simp [rowsLen] <;> omega) | (refine (?_ : _ ≤ 9223372036854775807); simp [rowsLen] <;> omega) | (refine (?_ : _ = rowsLen _); simp [rowsLen] <;> omega) | refine eqv_to _ (app_row rfl) (eqv_to _ app_len ?_) | refine eqv_to _ (app_first rfl) (eqv_to 1 rfl ?_) | refine idx_sl (at_map (by assumption)) (by omega) ?_ | refine idx_ms _ (by first | rfl | assumption) (by first | assumption | omega) ?_ | fail))
      | skip
    all_goals
      refine ghost_region (Ghost.ref (S := JC n N i (A.set b (A.getD b [] ++ [(i, false)])) f e y z ((A.set b (A.getD b [] ++ [(i, false)])).map rowO) _ _ _) ⟨rnB N 5 b 7, rnB_allD (.inl rfl) (.inl rfl), rfl, And.intro rfl (And.intro rfl (And.intro rfl (And.intro ?_ (And.intro rfl (And.intro rfl (rows_kept7 hAl hT hbN ?_ ?_)))))), rfl, rfl, rfl, rfl, rfl, rfl, trivial⟩) ?_
    all_goals first
      | (refine Eq.trans (b := some (some (⟨60, 1, false, .m ((cellsA 10 A).set b [.ms 7 2 0 (A.getD b [] ++ [(i, false)]).length])⟩ : AObj))) ?_ (congrArg (fun l => some (some (⟨60, 1, false, .m l⟩ : AObj))) (cellsA_ren7 (by omega) (by simp) (fun j hj hne => (rnB_get (by omega)).trans (if_neg fun k => hne k.symm)) ((rnB_get hbN).trans (if_pos rfl))).symm)
         rw [hAb]
         first | done | rfl)
      | (intro j o hj ho
         first
           | exact ho
           | (show (T.set b none)[j]? = _
              rw [List.getElem?_set_ne (Ne.symm hj)]
              exact ho))
      | (show _ = some (rowO (A.getD b [] ++ [(i, false)]))
         rw [hAb]
         rfl)
      | (refine ghost_region Ghost.refl ?_)
    all_goals
      clear hfarT hfarA hgc hTb
      have hAa : (A.set b (A.getD b [] ++ [(i, false)])).getD a [] = A.getD a [] := by rw [getD_set, if_neg (fun k => hab k.1.symm)]
      have hA1 : (A.set b (A.getD b [] ++ [(i, false)])).length = N := by simp [hAl]
      have hbs := hb.step he ha hbb haN hbN hab
      rw [← hy] at hbs
      generalize hAA : A.set b (A.getD b [] ++ [(i, false)]) = A1 at *
      clear hT
      generalize hT : A1.map rowO = T at *
      dsimp only [JC]
      have hfarT : ∀ k m, k + m ≤ 10 → farH k m 10 T := fun k m hk => by rw [← hT]; exact rowsA_far A1 10 hk
      have hfarA : ∀ k m, k + m ≤ 10 → ∀ r ∈ cellsA 10 A1, farL k m r = true := fun k m hk => cellsA_far A1 10 hk
      refine code_region_atD (k := 6) (GhostF.room (Nat.zero_le _) (Nat.le_add_left _ _) (fun _ _ h => h) rfl ⟨.inl (by decide), rfl, .inl (by decide), trivial, .inl (by decide), trivial, .inl (by decide), hfarA 6 2 (by decide), .inl (by decide), rfl, .inl (by decide), rfl, hfarT 6 2 (by decide)⟩) ?_
      have hgc := cellsA_get10 (A := A1) (u := a) (by omega)
      have hTb : T[a]? = some (rowO (A.getD a [])) := by rw [← hT, ← hAa]; exact rowsA_get A1 a (by omega)
      have hsh2 := hb.short a
      rw [hAa] at hgc
      generalize hAb2 : A.getD a [] = la at *
      rcases la with _ | ⟨c1, la⟩
      all_goals simp only [List.length_cons, List.length_nil] at hsh2
    all_goals
      repeat' (first | (exact (rfl : allOne _ = true)) | exact trivial | (refine (?_ : _ ≠ _); omega) | (refine (?_ : srcLen _ = rowsLen _); rfl) | (intro h; exact absurd h (Nat.succ_ne_zero _)) | (intro h; exact absurd h (Nat.not_lt_zero _))  | (exact (Nat.le_of_ble_eq_true rfl)) | (exact (by kernel_rfl : drawOk _ _ = true)) | refine ops_cons ?_ | refine ops_nil ?_ | refine opsD_cons ?_ | refine opsD_nil ?_ | refine any_step ?_ | refine any_nil ?_ | refine code_seq ?_ | refine code_cond ?_ | refine code_block ?_ | refine code_scope ?_ | refine code_skip ?_ | refine code_ret ?_ | refine code_exit ?_ | (refine And.intro ?_ ?_) | (intro h; first | exact Bool.noConfusion h | (simp at h; done) | simp at h | skip) | refine eqv_len_map ?_ | refine eqv_zero ?_ | refine eqv_wrap (by omega) (by omega) ?_ | refine eqv_to _ (set_map rfl rfl) ?_ | refine ⟨_, _, (by first | rfl | assumption), at_map (by assumption), ?_⟩ | refine ⟨_, at_map (by assumption), (by decide), ?_⟩ | refine ⟨_, at_map (by assumption), ?_⟩ | (refine (?_ : _ ≤ 140737488355328); simp [rowsLen] <;> omega) | (refine (?_ : _ ≤ 9223372036854775807); simp [rowsLen] <;> omega) | (refine (?_ : _ = rowsLen _); simp [rowsLen] <;> omega) | refine eqv_to _ (app_row rfl) (eqv_to _ app_len ?_) | refine eqv_to _ (app_first rfl) (eqv_to 1 rfl ?_) | refine idx_sl (at_map (by assumption)) (by omega) ?_ | refine idx_ms _ (by first | rfl | assumption) (by first | assumption | omega) ?_ | fail)
      refine ⟨_, hgc, ?_⟩
      repeat' (first | (exact (rfl : allOne _ = true)) | exact trivial | (refine (?_ : _ ≠ _); omega) | (refine (?_ : srcLen _ = rowsLen _); rfl) | (intro h; exact absurd h (Nat.succ_ne_zero _)) | (intro h; exact absurd h (Nat.not_lt_zero _))  | (exact (Nat.le_of_ble_eq_true rfl)) | (exact (by kernel_rfl : drawOk _ _ = true)) | refine ops_cons ?_ | refine ops_nil ?_ | refine opsD_cons ?_ | refine opsD_nil ?_ | refine any_step ?_ | refine any_nil ?_ | refine code_seq ?_ | refine code_cond ?_ | refine code_block ?_ | refine code_scope ?_ | refine code_skip ?_ | refine code_ret ?_ | refine code_exit ?_ | (refine And.intro ?_ ?_) | (intro h; first | exact Bool.noConfusion h | (simp at h; done) | simp at h | skip) | refine eqv_len_map ?_ | refine eqv_zero ?_ | refine eqv_wrap (by omega) (by omega) ?_ | refine eqv_to _ (set_map rfl rfl) ?_ | refine ⟨_, _, (by first | rfl | assumption), at_map (by assumption), ?_⟩ | refine ⟨_, at_map (by assumption), (by decide), ?_⟩ | refine ⟨_, at_map (by assumption), ?_⟩ | (refine (?_ : _ ≤ 140737488355328); simp [rowsLen] <;> omega) | (refine (?_ : _ ≤ 9223372036854775807); simp [rowsLen] <;> omega) | (refine (?_ : _ = rowsLen _); simp [rowsLen] <;> omega) | refine eqv_to _ (app_row rfl) (eqv_to _ app_len ?_) | refine eqv_to _ (app_first rfl) (eqv_to 1 rfl ?_) | refine idx_sl (at_map (by assumption)) (by omega) ?_ | refine idx_ms _ (by first | rfl | assumption) (by first | assumption | omega) ?_ | fail); repeat (any_goals (first | (change forceH T _; refine forceH_in ?_) | (change forceH (List.set T _ none) _; refine forceH_in ?_)); repeat' (first | (exact (rfl : allOne _ = true)) | exact trivial | (refine (?_ : _ ≠ _); omega) | (refine (?_ : srcLen _ = rowsLen _); rfl) | (intro h; exact absurd h (Nat.succ_ne_zero _)) | (intro h; exact absurd h (Nat.not_lt_zero _))  | (exact (Nat.le_of_ble_eq_true rfl)) | (exact (by kernel_rfl : drawOk _ _ = true)) | refine ops_cons ?_ | refine ops_nil ?_ | refine opsD_cons ?_ | refine opsD_nil ?_ | refine any_step ?_ | refine any_nil ?_ | refine code_seq ?_ | refine code_cond ?_ | refine code_block ?_ | refine code_scope ?_ | refine code_skip ?_ | refine code_ret ?_ | refine code_exit ?_ | (refine And.intro ?_ ?_) | (intro h; first | exact Bool.noConfusion h | (simp at h; done) | simp at h | skip) | refine eqv_len_map ?_ | refine eqv_zero ?_ | refine eqv_wrap (by omega) (by omega) ?_ | refine eqv_to _ (set_map rfl rfl) ?_ | refine ⟨_, _, (by first | rfl | assumption), at_map (by assumption), ?_⟩ | refine ⟨_, at_map (by assumption), (by decide), ?_⟩ | refine ⟨_, at_map (by assumption), ?_⟩ | (refine (?_ : _ ≤ 140737488355328); simp [rowsLen] <;> omega) | (refine (?_ : _ ≤ 9223372036854775807); simp [rowsLen] <;> omega) | (refine (?_ : _ = rowsLen _); simp [rowsLen] <;> omega) | refine eqv_to _ (app_row rfl) (eqv_to _ app_len ?_) | refine eqv_to _ (app_first rfl) (eqv_to 1 rfl ?_) | refine idx_sl (at_map (by assumption)) (by omega) ?_ | refine idx_ms _ (by first | rfl | assumption) (by first | assumption | omega) ?_ | fail))
    all_goals first
      | (refine ⟨_, hgc, Nat.le_refl _, eqv_rfl ?_⟩
         repeat' (first | (exact (rfl : allOne _ = true)) | exact trivial | (refine (?_ : _ ≠ _); omega) | (refine (?_ : srcLen _ = rowsLen _); rfl) | (intro h; exact absurd h (Nat.succ_ne_zero _)) | (intro h; exact absurd h (Nat.not_lt_zero _))  | (exact (Nat.le_of_ble_eq_true rfl)) | (exact (by kernel_rfl : drawOk _ _ = true)) | refine ops_cons ?_ | refine ops_nil ?_ | refine opsD_cons ?_ | refine opsD_nil ?_ | refine any_step ?_ | refine any_nil ?_ | refine code_seq ?_ | refine code_cond ?_ | refine code_block ?_ | refine code_scope ?_ | refine code_skip ?_ | refine code_ret ?_ | refine code_exit ?_ | (refine And.intro ?_ ?_) | (intro h; first | exact Bool.noConfusion h | (simp at h; done) | simp at h | skip) | refine eqv_len_map ?_ | refine eqv_zero ?_ | refine eqv_wrap (by omega) (by omega) ?_ | refine eqv_to _ (set_map rfl rfl) ?_ | refine ⟨_, _, (by first | rfl | assumption), at_map (by assumption), ?_⟩ | refine ⟨_, at_map (by assumption), (by decide), ?_⟩ | refine ⟨_, at_map (by assumption), ?_⟩ | (refine (?_ : _ ≤ 140737488355328); simp [rowsLen] <;> omega) | (refine (?_ : _ ≤ 9223372036854775807); simp [rowsLen] <;> omega) | (refine (?_ : _ = rowsLen _); simp [rowsLen] <;> omega) | refine eqv_to _ (app_row rfl) (eqv_to _ app_len ?_) | refine eqv_to _ (app_first rfl) (eqv_to 1 rfl ?_) | refine idx_sl (at_map (by assumption)) (by omega) ?_ | refine idx_ms _ (by first | rfl | assumption) (by first | assumption | omega) ?_ | fail)
         (conv => whnf); refine forceH_in ?_
         repeat' (first | (exact (rfl : allOne _ = true)) | exact trivial | (refine (?_ : _ ≠ _); omega) | (refine (?_ : srcLen _ = rowsLen _); rfl) | (intro h; exact absurd h (Nat.succ_ne_zero _)) | (intro h; exact absurd h (Nat.not_lt_zero _))  | (exact (Nat.le_of_ble_eq_true rfl)) | (exact (by kernel_rfl : drawOk _ _ = true)) | refine ops_cons ?_ | refine ops_nil ?_ | refine opsD_cons ?_ | refine opsD_nil ?_ | refine any_step ?_ | refine any_nil ?_ | refine code_seq ?_ | refine code_cond ?_ | refine code_block ?_ | refine code_scope ?_ | refine code_skip ?_ | refine code_ret ?_ | refine code_exit ?_ | (refine And.intro ?_ ?_) | (intro h; first | exact Bool.noConfusion h | (simp at h; done) | simp at h | skip) | refine eqv_len_map ?_ | refine eqv_zero ?_ | refine eqv_wrap (by omega) (by omega) ?_ | refine eqv_to _ (set_map rfl rfl) ?_ | refine ⟨_, _, (by first | rfl | assumption), at_map (by assumption), ?_⟩ | refine ⟨_, at_map (by assumption), (by decide), ?_⟩ | refine ⟨_, at_map (by assumption), ?_⟩ | (refine (?_ : _ ≤ 140737488355328); simp [rowsLen] <;> omega) | (refine (?_ : _ ≤ 9223372036854775807); simp [rowsLen] <;> omega) | (refine (?_ : _ = rowsLen _); simp [rowsLen] <;> omega) | refine eqv_to _ (app_row rfl) (eqv_to _ app_len ?_) | refine eqv_to _ (app_first rfl) (eqv_to 1 rfl ?_) | refine idx_sl (at_map (by assumption)) (by omega) ?_ | refine idx_ms _ (by first | rfl | assumption) (by first | assumption | omega) ?_ | fail))
      | ((conv => whnf)
         simp only [List.getElem?_cons_succ, hTb]
         repeat' (first | (exact (rfl : allOne _ = true)) | exact trivial | (refine (?_ : _ ≠ _); omega) | (refine (?_ : srcLen _ = rowsLen _); rfl) | (intro h; exact absurd h (Nat.succ_ne_zero _)) | (intro h; exact absurd h (Nat.not_lt_zero _))  | (exact (Nat.le_of_ble_eq_true rfl)) | (exact (by kernel_rfl : drawOk _ _ = true)) | refine ops_cons ?_ | refine ops_nil ?_ | refine opsD_cons ?_ | refine opsD_nil ?_ | refine any_step ?_ | refine any_nil ?_ | refine code_seq ?_ | refine code_cond ?_ | refine code_block ?_ | refine code_scope ?_ | refine code_skip ?_ | refine code_ret ?_ | refine code_exit ?_ | (refine And.intro ?_ ?_) | (intro h; first | exact Bool.noConfusion h | (simp at h; done) | simp at h | skip) | refine eqv_len_map ?_ | refine eqv_zero ?_ | refine eqv_wrap (by omega) (by omega) ?_ | refine eqv_to _ (set_map rfl rfl) ?_ | refine ⟨_, _, (by first | rfl | assumption), at_map (by assumption), ?_⟩ | refine ⟨_, at_map (by assumption), (by decide), ?_⟩ | refine ⟨_, at_map (by assumption), ?_⟩ | (refine (?_ : _ ≤ 140737488355328); simp [rowsLen] <;> omega) | (refine (?_ : _ ≤ 9223372036854775807); simp [rowsLen] <;> omega) | (refine (?_ : _ = rowsLen _); simp [rowsLen] <;> omega) | refine eqv_to _ (app_row rfl) (eqv_to _ app_len ?_) | refine eqv_to _ (app_first rfl) (eqv_to 1 rfl ?_) | refine idx_sl (at_map (by assumption)) (by omega) ?_ | refine idx_ms _ (by first | rfl | assumption) (by first | assumption | omega) ?_ | fail)
         refine eqv_to _ (app_row (y := (i, true)) rfl) (eqv_to ((c1 :: la) ++ [(i, true)]).length app_len ?_)
         (conv => whnf); refine forceH_in ?_
         repeat' (first | (exact (rfl : allOne _ = true)) | exact trivial | (refine (?_ : _ ≠ _); omega) | (refine (?_ : srcLen _ = rowsLen _); rfl) | (intro h; exact absurd h (Nat.succ_ne_zero _)) | (intro h; exact absurd h (Nat.not_lt_zero _))  | (exact (Nat.le_of_ble_eq_true rfl)) | (exact (by kernel_rfl : drawOk _ _ = true)) | refine ops_cons ?_ | refine ops_nil ?_ | refine opsD_cons ?_ | refine opsD_nil ?_ | refine any_step ?_ | refine any_nil ?_ | refine code_seq ?_ | refine code_cond ?_ | refine code_block ?_ | refine code_scope ?_ | refine code_skip ?_ | refine code_ret ?_ | refine code_exit ?_ | (refine And.intro ?_ ?_) | (intro h; first | exact Bool.noConfusion h | (simp at h; done) | simp at h | skip) | refine eqv_len_map ?_ | refine eqv_zero ?_ | refine eqv_wrap (by omega) (by omega) ?_ | refine eqv_to _ (set_map rfl rfl) ?_ | refine ⟨_, _, (by first | rfl | assumption), at_map (by assumption), ?_⟩ | refine ⟨_, at_map (by assumption), (by decide), ?_⟩ | refine ⟨_, at_map (by assumption), ?_⟩ | (refine (?_ : _ ≤ 140737488355328); simp [rowsLen] <;> omega) | (refine (?_ : _ ≤ 9223372036854775807); simp [rowsLen] <;> omega) | (refine (?_ : _ = rowsLen _); simp [rowsLen] <;> omega) | refine eqv_to _ (app_row rfl) (eqv_to _ app_len ?_) | refine eqv_to _ (app_first rfl) (eqv_to 1 rfl ?_) | refine idx_sl (at_map (by assumption)) (by omega) ?_ | refine idx_ms _ (by first | rfl | assumption) (by first | assumption | omega) ?_ | fail)
         refine ⟨_, hgc, Nat.le_refl _, eqv_rfl ?_⟩
         repeat' (first | (exact (rfl : allOne _ = true)) | exact trivial | (refine (?_ : _ ≠ _); omega) | (refine (?_ : srcLen _ = rowsLen _); rfl) | (intro h; exact absurd h (Nat.succ_ne_zero _)) | (intro h; exact absurd h (Nat.not_lt_zero _))  | (exact (Nat.le_of_ble_eq_true rfl)) | (exact (by kernel_rfl : drawOk _ _ = true)) | refine ops_cons ?_ | refine ops_nil ?_ | refine opsD_cons ?_ | refine opsD_nil ?_ | refine any_step ?_ | refine any_nil ?_ | refine code_seq ?_ | refine code_cond ?_ | refine code_block ?_ | refine code_scope ?_ | refine code_skip ?_ | refine code_ret ?_ | refine code_exit ?_ | (refine And.intro ?_ ?_) | (intro h; first | exact Bool.noConfusion h | (simp at h; done) | simp at h | skip) | refine eqv_len_map ?_ | refine eqv_zero ?_ | refine eqv_wrap (by omega) (by omega) ?_ | refine eqv_to _ (set_map rfl rfl) ?_ | refine ⟨_, _, (by first | rfl | assumption), at_map (by assumption), ?_⟩ | refine ⟨_, at_map (by assumption), (by decide), ?_⟩ | refine ⟨_, at_map (by assumption), ?_⟩ | (refine (?_ : _ ≤ 140737488355328); simp [rowsLen] <;> omega) | (refine (?_ : _ ≤ 9223372036854775807); simp [rowsLen] <;> omega) | (refine (?_ : _ = rowsLen _); simp [rowsLen] <;> omega) | refine eqv_to _ (app_row rfl) (eqv_to _ app_len ?_) | refine eqv_to _ (app_first rfl) (eqv_to 1 rfl ?_) | refine idx_sl (at_map (by assumption)) (by omega) ?_ | refine idx_ms _ (by first | rfl | assumption) (by first | assumption | omega) ?_ | fail)
         (conv => whnf); refine forceH_in ?_
         repeat' (first | (exact (rfl : allOne _ = true)) | exact trivial | (refine (?_ : _ ≠ _); omega) | (refine (?_ : srcLen _ = rowsLen _); rfl) | (intro h; exact absurd h (Nat.succ_ne_zero _)) | (intro h; exact absurd h (Nat.not_lt_zero _))  | (exact (Nat.le_of_ble_eq_true rfl)) | (exact (by kernel_rfl : drawOk _ _ = true)) | refine ops_cons ?_ | refine ops_nil ?_ | refine opsD_cons ?_ | refine opsD_nil ?_ | refine any_step ?_ | refine any_nil ?_ | refine code_seq ?_ | refine code_cond ?_ | refine code_block ?_ | refine code_scope ?_ | refine code_skip ?_ | refine code_ret ?_ | refine code_exit ?_ | (refine And.intro ?_ ?_) | (intro h; first | exact Bool.noConfusion h | (simp at h; done) | simp at h | skip) | refine eqv_len_map ?_ | refine eqv_zero ?_ | refine eqv_wrap (by omega) (by omega) ?_ | refine eqv_to _ (set_map rfl rfl) ?_ | refine ⟨_, _, (by first | rfl | assumption), at_map (by assumption), ?_⟩ | refine ⟨_, at_map (by assumption), (by decide), ?_⟩ | refine ⟨_, at_map (by assumption), ?_⟩ | (refine (?_ : _ ≤ 140737488355328); simp [rowsLen] <;> omega) | (refine (?_ : _ ≤ 9223372036854775807); simp [rowsLen] <;> omega) | (refine (?_ : _ = rowsLen _); simp [rowsLen] <;> omega) | refine eqv_to _ (app_row rfl) (eqv_to _ app_len ?_) | refine eqv_to _ (app_first rfl) (eqv_to 1 rfl ?_) | refine idx_sl (at_map (by assumption)) (by omega) ?_ | refine idx_ms _ (by first | rfl | assumption) (by first | assumption | omega) ?_ | fail))
    all_goals
      refine code_region ?_
      repeat' (first | (exact (rfl : allOne _ = true)) | exact trivial | (refine (?_ : _ ≠ _); omega) | (refine (?_ : srcLen _ = rowsLen _); rfl) | (intro h; exact absurd h (Nat.succ_ne_zero _)) | (intro h; exact absurd h (Nat.not_lt_zero _))  | (exact (Nat.le_of_ble_eq_true rfl)) | (exact (by kernel_rfl : drawOk _ _ = true)) | refine ops_cons ?_ | refine ops_nil ?_ | refine opsD_cons ?_ | refine opsD_nil ?_ | refine any_step ?_ | refine any_nil ?_ | refine code_seq ?_ | refine code_cond ?_ | refine code_block ?_ | refine code_scope ?_ | refine code_skip ?_ | refine code_ret ?_ | refine code_exit ?_ | (refine And.intro ?_ ?_) | (intro h; first | exact Bool.noConfusion h | (simp at h; done) | simp at h | skip) | refine eqv_len_map ?_ | refine eqv_zero ?_ | refine eqv_wrap (by omega) (by omega) ?_ | refine eqv_to _ (set_map rfl rfl) ?_ | refine ⟨_, _, (by first | rfl | assumption), at_map (by assumption), ?_⟩ | refine ⟨_, at_map (by assumption), (by decide), ?_⟩ | refine ⟨_, at_map (by assumption), ?_⟩ | (refine (?_ : _ ≤ 140737488355328); simp [rowsLen] <;> omega) | (refine (?_ : _ ≤ 9223372036854775807); simp [rowsLen] <;> omega) | (refine (?_ : _ = rowsLen _); simp [rowsLen] <;> omega) | refine eqv_to _ (app_row rfl) (eqv_to _ app_len ?_) | refine eqv_to _ (app_first rfl) (eqv_to 1 rfl ?_) | refine idx_sl (at_map (by assumption)) (by omega) ?_ | refine idx_ms _ (by first | rfl | assumption) (by first | assumption | omega) ?_ | fail)
      refine ⟨(i + 1, A1.set a (A.getD a [] ++ [(i, true)]), f.set i y), ⟨by rw [hAb2]; exact hbs, by dsimp only; omega⟩, by dsimp only; omega, rnB N (10 + N) a 7, rnB_allD (.inr rfl) (.inl rfl), rfl, ?_, rfl, rfl, rfl, rfl, trivial⟩
      refine And.intro rfl (And.intro rfl (And.intro ?_ (And.intro ?_ (And.intro rfl (rows_kept7 hA1 hT haN ?_ ?_)))))
    all_goals first
      | (show some (some (⟨3, 1, false, .p (encS (sumsOf N (z ++ [(e, y)])))⟩ : AObj)) = some (some ⟨3, 1, false, .p (encS (sumsOf N (List.take (i+1) (n.es.zip (f.set i y)))))⟩)
         rw [hz])
      | (refine Eq.trans (b := some (some (⟨60, 1, false, .m ((cellsA 10 A1).set a [.ms 7 2 0 (A.getD a [] ++ [(i, true)]).length])⟩ : AObj))) ?_ (congrArg (fun l => some (some (⟨60, 1, false, .m l⟩ : AObj))) (cellsA_ren7 (by omega) (by simp) (fun j hj hne => (rnB_get (by omega)).trans (if_neg fun k => hne k.symm)) ((rnB_get haN).trans (if_pos rfl))).symm)
         rw [hAb2]
         first | done | rfl)
      | (intro j o hj ho
         first
           | exact ho
           | (show (T.set a none)[j]? = _
              rw [List.getElem?_set_ne (Ne.symm hj)]
              exact ho))
      | (show _ = some (rowO (A.getD a [] ++ [(i, true)]))
         rw [hAb2]
         rfl)
  · obtain rfl : i = n.es.length := by omega
    have hAl := hb.alen
    have hH : ∀ j, j < A.length → T[j]? = some (rowO (A.getD j [])) := fun j hj => by rw [← hT]; exact rowsA_get A j hj
    have htz : List.take n.es.length (n.es.zip f) = n.es.zip f := List.take_of_length_le (by simp; omega)
    rw [htz]
    refine ghost_region (Ghost.shut (i := 4) (c := 4) rfl rfl (conv_arcs hAl rfl hH) (ok_arcs hAl rfl hH) (fun k => by rcases ids_arcs hAl rfl hH _ k with e | e <;> omega) (ALe.pv (PLe.sl (rows_le A)))) ?_
    refine ghost_region (Ghost.ref (S := ⟨[(3, .ptr 0 5 0 0)], [wO n N A, iO f, iO (sumsOf N (n.es.zip f))]⟩) ⟨[4, 1, 2], rfl, rfl, And.intro ?_ (And.intro ?_ (And.intro ?_ trivial)), rfl, trivial⟩) ?_
    · rw [List.getElem?_set, if_pos rfl, if_pos (by rw [app_length]; exact Nat.lt_of_lt_of_le (by decide) (Nat.le_add_left 10 T.length))]; rfl
    · rw [List.getElem?_set, if_neg (by decide), frz_get _ _ _ (fun i ⟨o, ho⟩ => ⟨o, ho, .inl ho⟩)]
      show (if 1 ∈ _ then _ else _) = _
      rw [if_neg (fun k => by rcases ids_arcs hAl rfl hH _ k with e | e <;> omega)]; rfl
    · rw [List.getElem?_set, if_neg (by decide), frz_get _ _ _ (fun i ⟨o, ho⟩ => ⟨o, ho, .inl ho⟩)]
      show (if 2 ∈ _ then _ else _) = _
      rw [if_neg (fun k => by rcases ids_arcs hAl rfl hH _ k with e | e <;> omega)]; rfl
    repeat' (first | (exact (rfl : allOne _ = true)) | exact trivial | (refine (?_ : _ ≠ _); omega) | (refine (?_ : srcLen _ = rowsLen _); rfl) | (intro h; exact absurd h (Nat.succ_ne_zero _)) | (intro h; exact absurd h (Nat.not_lt_zero _))  | (exact (Nat.le_of_ble_eq_true rfl)) | (exact (by kernel_rfl : drawOk _ _ = true)) | refine ops_cons ?_ | refine ops_nil ?_ | refine opsD_cons ?_ | refine opsD_nil ?_ | refine any_step ?_ | refine any_nil ?_ | refine code_seq ?_ | refine code_region ?_ | refine code_cond ?_ | refine code_block ?_ | refine code_scope ?_ | refine code_skip ?_ | refine code_ret ?_ | refine code_exit ?_ | (refine And.intro ?_ ?_) | (intro h; first | exact Bool.noConfusion h | (simp at h; done) | simp at h | skip) | refine eqv_len_map ?_ | refine eqv_zero ?_ | refine eqv_wrap (by omega) (by omega) ?_ | refine eqv_to _ (set_map rfl rfl) ?_ | refine ⟨_, _, (by first | rfl | assumption), at_map (by assumption), ?_⟩ | refine ⟨_, at_map (by assumption), (by decide), ?_⟩ | refine ⟨_, at_map (by assumption), ?_⟩ | (refine (?_ : _ ≤ 140737488355328); simp [rowsLen] <;> omega) | (refine (?_ : _ ≤ 9223372036854775807); simp [rowsLen] <;> omega) | (refine (?_ : _ = rowsLen _); simp [rowsLen] <;> omega) | refine eqv_to _ (app_row rfl) (eqv_to _ app_len ?_) | refine eqv_to _ (app_first rfl) (eqv_to 1 rfl ?_) | refine idx_sl (at_map (by assumption)) (by omega) ?_ | refine idx_ms _ (by first | rfl | assumption) (by first | assumption | omega) ?_ | fail)
    obtain ⟨q1, q2, q3⟩ := hb.done hv hN
    exact ret_obj [0, 1, 2] [wO n N A, iO f, iO (sumsOf N (n.es.zip f))] rfl rfl (And.intro rfl (And.intro rfl (And.intro rfl trivial))) (r' := .ptr 0 5 0 0) rfl ⟨N, A, f, q1, q2, q3, rfl, rfl⟩

theorem begin_ok : BeginC := c_begin0
end Go.Proofs.Ytlhakdmenohdnaa.Cw

/-
  Solve and Cut: what they answer, as pure values.
-/
namespace Go.Proofs.Ytlhakdmenohdnaa.Cw
open Go.Cw Go.Proofs
set_option linter.unusedVariables false
set_option maxRecDepth 100000

def SolveR (n : Net) (f c : List Int) (e : Int) : Prop :=
  (validR n ≠ 0 ∧ f = [] ∧ c = [] ∧ e = validR n) ∨ (validR n = 0 ∧ f = [] ∧ c = [] ∧ e = 60 ∧ ∀ l, balB n l = false) ∨ (validR n = 0 ∧ e = 0 ∧ optB n f c = true)
def CutR (n : Net) (s : List Bool) (ok : Bool) : Prop :=
  (validR n ≠ 0 ∧ s = [] ∧ ok = false) ∨ (validR n = 0 ∧ s = [] ∧ ok = false ∧ ∃ l, balB n l = true) ∨ (validR n = 0 ∧ ok = true ∧ blkB n s = true)

theorem c_solveP (n : Net) : PCall Try.prog 19 [encN n] (fun r => ∃ f c e, r = .tup [encI f, encI c, vint .i64 e] ∧ SolveR n f c e) := by
  refine ACall.frozen (c_solve begin_ok n) ?_
  rintro r H' (⟨h, rfl, rfl⟩ | ⟨h, N, A, f, g, hf, (⟨s, hs, rfl, rfl⟩ | ⟨c, b, s, h0, ⟨p, hp⟩, hS, rfl, rfl⟩)⟩)
  · exact ⟨_, rfl, (by repeat' (first | trivial | refine And.intro ?_ ?_)), .tup [encI [], encI [], vint .i64 (validR n)], ALe.tup ⟨ALe.pv PLe.nil, ALe.pv PLe.nil, ALe.refl, trivial⟩, [], [], _, rfl, .inl ⟨h, rfl, rfl, rfl⟩⟩
  · exact ⟨_, rfl, (by repeat' (first | trivial | refine And.intro ?_ ?_)), .tup [encI [], encI [], vint .i64 60], ALe.tup ⟨ALe.pv PLe.nil, ALe.pv PLe.nil, ALe.refl, trivial⟩, [], [], _, rfl, .inr (.inl ⟨h, rfl, rfl, rfl, fun l => blk_bal (blk_of h g hf hs)⟩)⟩
  · refine ⟨_, rfl, ?_, .tup [encI f, encI c, vint .i64 0], ?_, f, c, 0, rfl, .inr (.inr ⟨h, rfl, opt_of h g hf hp h0 hS⟩)⟩
    · refine ⟨?_, ?_, trivial⟩
      · show 0 + _ ≤ (encS f).length
        simp [hf.len]
      · show 0 + _ ≤ (encS c).length
        simp [hS.lc]
    · have e1 : ((encS f).drop 0).take n.es.length = encS f := by rw [List.drop_zero, List.take_of_length_le (by simp [hf.len])]
      have e2 : ((encS c).drop 0).take N = encS c := by rw [List.drop_zero, List.take_of_length_le (by simp [hS.lc])]
      rw [e1, e2]
      exact ALe.refl

theorem c_cutP (n : Net) : PCall Try.prog 21 [encN n] (fun r => ∃ s ok, r = .tup [encBs s, vbool ok] ∧ CutR n s ok) := by
  refine ACall.frozen (c_cut begin_ok n) ?_
  rintro r H' (⟨h, rfl, rfl⟩ | ⟨h, N, A, f, g, hf, (⟨h0, rfl, rfl⟩ | ⟨s, hs, rfl, rfl⟩)⟩)
  · exact ⟨_, rfl, (by repeat' (first | trivial | refine And.intro ?_ ?_)), .tup [encBs [], vbool false], ALe.tup ⟨ALe.pv PLe.nil, ALe.refl, trivial⟩, [], _, rfl, .inl ⟨h, rfl, rfl⟩⟩
  · exact ⟨_, rfl, (by repeat' (first | trivial | refine And.intro ?_ ?_)), .tup [encBs [], vbool false], ALe.tup ⟨ALe.pv PLe.nil, ALe.refl, trivial⟩, [], _, rfl, .inr (.inl ⟨h, rfl, rfl, f, bal_le h g hf h0⟩)⟩
  · refine ⟨_, rfl, ?_, .tup [encBs (s.map (!·)), vbool true], ?_, _, true, rfl, .inr (.inr ⟨h, rfl, blk_of h g hf hs⟩)⟩
    · refine ⟨?_, trivial⟩
      show 0 + _ ≤ (encB (s.map (!·))).length
      simp [hs.len]
    · have e1 : ((encB (s.map (!·))).drop 0).take N = encB (s.map (!·)) := by rw [List.drop_zero, List.take_of_length_le (by simp [hs.len])]
      rw [e1]
      exact ALe.refl

theorem opt_bal {n : Net} {f p : List Int} (h : optB n f p = true) : balB n f = true := by
  simp only [optB, Bool.and_eq_true] at h; exact h.1

theorem opt_valid {n : Net} {f p : List Int} (h : optB n f p = true) : validR n = 0 := (balP_spec (opt_bal h)).1

theorem opt_flow {n : Net} {f p : List Int} (h : optB n f p = true) : f.length = n.es.length ∧ ∀ x ∈ f, 0 ≤ x ∧ x ≤ 1000 := by
  obtain ⟨h1, h2, h3, _⟩ := balP_spec (opt_bal h)
  refine ⟨h2, fun x hx => ?_⟩
  obtain ⟨i, hi, rfl⟩ := List.getElem_of_mem hx
  have hz : (n.es.zip f)[i]? = some (n.es[i]'(by omega), f[i]) := by rw [List.getElem?_zip_eq_some]; exact ⟨List.getElem?_eq_getElem _, List.getElem?_eq_getElem _⟩
  have h4 := h3 _ (List.mem_of_getElem? hz)
  have h5 := (valid_spec h1).2.2.2 (n.es[i]'(by omega)) (List.getElem_mem _)
  simp [soundB] at h5
  simp only at h4
  omega

theorem opt_price {n : Net} {f p : List Int} (h : optB n f p = true) : (p.length : Int) = n.nodes ∧ ∀ x ∈ p, -1099511627776 ≤ x ∧ x ≤ 1099511627776 := by
  simp only [optB, Bool.and_eq_true, decide_eq_true_eq, List.all_eq_true] at h
  exact ⟨h.2.1, fun x hx => by simpa [prB] using h.2.2.1 x hx⟩
end Go.Proofs.Ytlhakdmenohdnaa.Cw

/-
  Contracts of the functions of the flow laws: dice and made networks.
-/
namespace Go.Proofs.Ytlhakdmenohdnaa.Cw
open Go.Cw Go.Proofs
set_option linter.unusedVariables false
set_option maxRecDepth 100000

def modI (a m : Int) : Int := if m < 1 then 0 else a % m

theorem tmod_mod {a m : Int} (h : 1 ≤ m) : (if a.tmod m < 0 then a.tmod m + m else a.tmod m) = a % m := by
  rw [Int.tmod_eq_emod]
  have h1 := Int.emod_nonneg a (show m ≠ 0 by omega)
  have h2 := Int.emod_lt_of_pos a (show 0 < m by omega)
  split
  · simp only [Int.ofNat_zero, Int.sub_zero]; rw [if_neg (by omega)]
  · rename_i h3
    have : (m.natAbs : Int) = m := by omega
    rw [this, if_pos (by omega)]; omega

theorem c_mod (a m : Int) (hm : m ≤ 9223372036854775807) : PCall Try.prog 27 [vint .i64 a, vint .i64 m] (fun r => r = vint .i64 (modI a m)) := by
  refine acall_of tok mixed 16 rfl (fn := Try.f27) (c := Try.f27.body.getD .skip) (by kernel_rfl) (by kernel_rfl) (by kernel_rfl) rfl 0 rfl ?_
  repeat' (first | (exact (rfl : allOne _ = true)) | exact trivial | (refine (?_ : _ ≠ _); omega) | (refine (?_ : srcLen _ = rowsLen _); rfl) | (intro h; exact absurd h (Nat.succ_ne_zero _)) | (intro h; exact absurd h (Nat.not_lt_zero _))  | (exact (Nat.le_of_ble_eq_true rfl)) | (exact (by kernel_rfl : drawOk _ _ = true)) | refine ops_cons ?_ | refine ops_nil ?_ | refine opsD_cons ?_ | refine opsD_nil ?_ | refine any_step ?_ | refine any_nil ?_ | refine code_seq ?_ | refine code_region ?_ | refine code_cond ?_ | refine code_block ?_ | refine code_scope ?_ | refine code_skip ?_ | refine code_ret ?_ | refine code_exit ?_ | (refine And.intro ?_ ?_) | (intro h; first | exact Bool.noConfusion h | (simp at h; done) | simp at h | skip) | refine eqv_len_map ?_ | refine eqv_zero ?_ | refine eqv_wrap (by omega) (by omega) ?_ | refine eqv_to _ (set_map rfl rfl) ?_ | refine ⟨_, _, (by first | rfl | assumption), at_map (by assumption), ?_⟩ | refine ⟨_, at_map (by assumption), (by decide), ?_⟩ | refine ⟨_, at_map (by assumption), ?_⟩ | (refine (?_ : _ ≤ 140737488355328); simp [rowsLen] <;> omega) | (refine (?_ : _ ≤ 9223372036854775807); simp [rowsLen] <;> omega) | (refine (?_ : _ = rowsLen _); simp [rowsLen] <;> omega) | refine eqv_to _ (app_row rfl) (eqv_to _ app_len ?_) | refine eqv_to _ (app_first rfl) (eqv_to 1 rfl ?_) | refine idx_sl (at_map (by assumption)) (by omega) ?_ | refine idx_ms _ (by first | rfl | assumption) (by first | assumption | omega) ?_ | fail); all_goals try (change retOk _ _ _ _; refine ret_pure rfl trivial ?_)
  case' refine_2.refine_2 =>
    have ht := tmod_mod (a := a) (m := m) (by omega)
    have h1 := Int.emod_nonneg a (show m ≠ 0 by omega)
    have h2 := Int.emod_lt_of_pos a (show 0 < m by omega)
    refine eqv_rfl ?_
    generalize a.tmod m = q at *
    have hq : q < 0 → q + m = a % m := fun h => by rw [if_pos h] at ht; exact ht
    repeat' (first | (exact (rfl : allOne _ = true)) | exact trivial | (refine (?_ : _ ≠ _); omega) | (refine (?_ : srcLen _ = rowsLen _); rfl) | (intro h; exact absurd h (Nat.succ_ne_zero _)) | (intro h; exact absurd h (Nat.not_lt_zero _))  | (exact (Nat.le_of_ble_eq_true rfl)) | (exact (by kernel_rfl : drawOk _ _ = true)) | refine ops_cons ?_ | refine ops_nil ?_ | refine opsD_cons ?_ | refine opsD_nil ?_ | refine any_step ?_ | refine any_nil ?_ | refine code_seq ?_ | refine code_region ?_ | refine code_cond ?_ | refine code_block ?_ | refine code_scope ?_ | refine code_skip ?_ | refine code_ret ?_ | refine code_exit ?_ | (refine And.intro ?_ ?_) | (intro h; first | exact Bool.noConfusion h | (simp at h; done) | simp at h | skip) | refine eqv_len_map ?_ | refine eqv_zero ?_ | refine eqv_wrap (by omega) (by omega) ?_ | refine eqv_to _ (set_map rfl rfl) ?_ | refine ⟨_, _, (by first | rfl | assumption), at_map (by assumption), ?_⟩ | refine ⟨_, at_map (by assumption), (by decide), ?_⟩ | refine ⟨_, at_map (by assumption), ?_⟩ | (refine (?_ : _ ≤ 140737488355328); simp [rowsLen] <;> omega) | (refine (?_ : _ ≤ 9223372036854775807); simp [rowsLen] <;> omega) | (refine (?_ : _ = rowsLen _); simp [rowsLen] <;> omega) | refine eqv_to _ (app_row rfl) (eqv_to _ app_len ?_) | refine eqv_to _ (app_first rfl) (eqv_to 1 rfl ?_) | refine idx_sl (at_map (by assumption)) (by omega) ?_ | refine idx_ms _ (by first | rfl | assumption) (by first | assumption | omega) ?_ | fail); all_goals try (change retOk _ _ _ _; refine ret_pure rfl trivial ?_)
  all_goals
    refine congrArg (vint .i64) ?_
    unfold modI
  all_goals first
    | (rw [if_neg (by omega)]; exact hq h)
    | (rw [if_neg (by omega), ← ht, if_neg (by omega)])
    | rw [if_pos h]

def dice (t : List Int) (k : Nat) : Option AObj := some ⟨55, 2, false, .box [encI t, vint .i64 k]⟩
def nextV (t : List Int) (k : Nat) (n : Int) : Int := match t[k]? with
  | some x => modI x n
  | none => 0
def nextK (t : List Int) (k : Nat) : Nat := if k < t.length then k + 1 else k

theorem nextV_range (t : List Int) (k : Nat) {n : Int} (h : 1 ≤ n) : 0 ≤ nextV t k n ∧ nextV t k n < n := by
  unfold nextV
  split
  · unfold modI; rw [if_neg (by omega)]; exact ⟨Int.emod_nonneg _ (by omega), Int.emod_lt_of_pos _ (by omega)⟩
  · omega

theorem c_next (t : List Int) (k : Nat) (n : Int) (ht : t.length ≤ 400) (hk : k ≤ t.length) (hn : n ≤ 9223372036854775807) :
    ACall Try.prog 24 [.ptr 0 2 0 0, vint .i64 n] [dice t k] (fun r H' => r = vint .i64 (nextV t k n) ∧ H' = [dice t (nextK t k)]) := by
  refine acall_of tok mixed 35 rfl (fn := Try.f24) (c := Try.f24.body.getD .skip) (by kernel_rfl) (by kernel_rfl) (by kernel_rfl) rfl 1 rfl ?_
  repeat' (first | (exact (rfl : allOne _ = true)) | exact trivial | (refine (?_ : _ ≠ _); omega) | (refine (?_ : srcLen _ = rowsLen _); rfl) | (intro h; exact absurd h (Nat.succ_ne_zero _)) | (intro h; exact absurd h (Nat.not_lt_zero _))  | (exact (Nat.le_of_ble_eq_true rfl)) | (exact (by kernel_rfl : drawOk _ _ = true)) | refine ops_cons ?_ | refine ops_nil ?_ | refine opsD_cons ?_ | refine opsD_nil ?_ | refine any_step ?_ | refine any_nil ?_ | refine code_seq ?_ | refine code_region ?_ | refine code_cond ?_ | refine code_block ?_ | refine code_scope ?_ | refine code_skip ?_ | refine code_ret ?_ | refine code_exit ?_ | (refine And.intro ?_ ?_) | (intro h; first | exact Bool.noConfusion h | (simp at h; done) | simp at h | skip) | refine eqv_len_map ?_ | refine eqv_zero ?_ | refine eqv_wrap (by omega) (by omega) ?_ | refine eqv_to _ (set_map rfl rfl) ?_ | refine ⟨_, _, (by first | rfl | assumption), at_map (by assumption), ?_⟩ | refine ⟨_, at_map (by assumption), (by decide), ?_⟩ | refine ⟨_, at_map (by assumption), ?_⟩ | (refine (?_ : _ ≤ 140737488355328); simp [rowsLen] <;> omega) | (refine (?_ : _ ≤ 9223372036854775807); simp [rowsLen] <;> omega) | (refine (?_ : _ = rowsLen _); simp [rowsLen] <;> omega) | refine eqv_to _ (app_row rfl) (eqv_to _ app_len ?_) | refine eqv_to _ (app_first rfl) (eqv_to 1 rfl ?_) | refine idx_sl (at_map (by assumption)) (by omega) ?_ | refine idx_ms _ (by first | rfl | assumption) (by first | assumption | omega) ?_ | fail)
  case' refine_1 =>
    refine ret_obj [0] [dice t (nextK t k)] rfl rfl ⟨(by rw [nextK, if_neg (by omega)]; rfl), trivial⟩ (r' := vint .i64 0) rfl ⟨?_, rfl⟩
    simp [nextV, List.getElem?_eq_none h]
  case' refine_2 =>
    obtain ⟨x, hx⟩ := getE h
    repeat' (first | (exact (rfl : allOne _ = true)) | exact trivial | (refine (?_ : _ ≠ _); omega) | (refine (?_ : srcLen _ = rowsLen _); rfl) | (intro h; exact absurd h (Nat.succ_ne_zero _)) | (intro h; exact absurd h (Nat.not_lt_zero _))  | (exact (Nat.le_of_ble_eq_true rfl)) | (exact (by kernel_rfl : drawOk _ _ = true)) | refine ops_cons ?_ | refine ops_nil ?_ | refine opsD_cons ?_ | refine opsD_nil ?_ | refine any_step ?_ | refine any_nil ?_ | refine code_seq ?_ | refine code_region ?_ | refine code_cond ?_ | refine code_block ?_ | refine code_scope ?_ | refine code_skip ?_ | refine code_ret ?_ | refine code_exit ?_ | (refine And.intro ?_ ?_) | (intro h; first | exact Bool.noConfusion h | (simp at h; done) | simp at h | skip) | refine eqv_len_map ?_ | refine eqv_zero ?_ | refine eqv_wrap (by omega) (by omega) ?_ | refine eqv_to _ (set_map rfl rfl) ?_ | refine ⟨_, _, (by first | rfl | assumption), at_map (by assumption), ?_⟩ | refine ⟨_, at_map (by assumption), (by decide), ?_⟩ | refine ⟨_, at_map (by assumption), ?_⟩ | (refine (?_ : _ ≤ 140737488355328); simp [rowsLen] <;> omega) | (refine (?_ : _ ≤ 9223372036854775807); simp [rowsLen] <;> omega) | (refine (?_ : _ = rowsLen _); simp [rowsLen] <;> omega) | refine eqv_to _ (app_row rfl) (eqv_to _ app_len ?_) | refine eqv_to _ (app_first rfl) (eqv_to 1 rfl ?_) | refine idx_sl (at_map (by assumption)) (by omega) ?_ | refine idx_ms _ (by first | rfl | assumption) (by first | assumption | omega) ?_ | fail)
    change vcFunD _ _ _ _ _
    refine callD_eq rfl (by repeat' (first | trivial | refine And.intro ?_ ?_)) ALeL.refl (c_mod x n hn) rfl ?_
    repeat' (first | (exact (rfl : allOne _ = true)) | exact trivial | (refine (?_ : _ ≠ _); omega) | (refine (?_ : srcLen _ = rowsLen _); rfl) | (intro h; exact absurd h (Nat.succ_ne_zero _)) | (intro h; exact absurd h (Nat.not_lt_zero _))  | (exact (Nat.le_of_ble_eq_true rfl)) | (exact (by kernel_rfl : drawOk _ _ = true)) | refine ops_cons ?_ | refine ops_nil ?_ | refine opsD_cons ?_ | refine opsD_nil ?_ | refine any_step ?_ | refine any_nil ?_ | refine code_seq ?_ | refine code_region ?_ | refine code_cond ?_ | refine code_block ?_ | refine code_scope ?_ | refine code_skip ?_ | refine code_ret ?_ | refine code_exit ?_ | (refine And.intro ?_ ?_) | (intro h; first | exact Bool.noConfusion h | (simp at h; done) | simp at h | skip) | refine eqv_len_map ?_ | refine eqv_zero ?_ | refine eqv_wrap (by omega) (by omega) ?_ | refine eqv_to _ (set_map rfl rfl) ?_ | refine ⟨_, _, (by first | rfl | assumption), at_map (by assumption), ?_⟩ | refine ⟨_, at_map (by assumption), (by decide), ?_⟩ | refine ⟨_, at_map (by assumption), ?_⟩ | (refine (?_ : _ ≤ 140737488355328); simp [rowsLen] <;> omega) | (refine (?_ : _ ≤ 9223372036854775807); simp [rowsLen] <;> omega) | (refine (?_ : _ = rowsLen _); simp [rowsLen] <;> omega) | refine eqv_to _ (app_row rfl) (eqv_to _ app_len ?_) | refine eqv_to _ (app_first rfl) (eqv_to 1 rfl ?_) | refine idx_sl (at_map (by assumption)) (by omega) ?_ | refine idx_ms _ (by first | rfl | assumption) (by first | assumption | omega) ?_ | fail)
    refine ret_obj [0] [dice t (nextK t k)] rfl rfl ⟨(by rw [nextK, if_pos h]; rfl), trivial⟩ (r' := vint .i64 (modI x n)) rfl ⟨?_, rfl⟩
    simp [nextV, hx]

theorem c_one (t : List Int) (k : Nat) (n : Int) (ht : t.length ≤ 400) (hk : k ≤ t.length) (hn : n ≤ 9223372036854775807) (hn1 : 1 ≤ n) :
    ACall Try.prog 28 [.ptr 0 2 0 0, vint .i64 n] [dice t k] (fun r H' => r = vbool (decide (nextV t k n = n - 1)) ∧ H' = [dice t (nextK t k)]) := by
  refine acall_of tok mixed 11 rfl (fn := Try.f28) (c := Try.f28.body.getD .skip) (by kernel_rfl) (by kernel_rfl) (by kernel_rfl) rfl 1 rfl ?_
  repeat' (first | (exact (rfl : allOne _ = true)) | exact trivial | (refine (?_ : _ ≠ _); omega) | (refine (?_ : srcLen _ = rowsLen _); rfl) | (intro h; exact absurd h (Nat.succ_ne_zero _)) | (intro h; exact absurd h (Nat.not_lt_zero _))  | (exact (Nat.le_of_ble_eq_true rfl)) | (exact (by kernel_rfl : drawOk _ _ = true)) | refine ops_cons ?_ | refine ops_nil ?_ | refine opsD_cons ?_ | refine opsD_nil ?_ | refine any_step ?_ | refine any_nil ?_ | refine code_seq ?_ | refine code_region ?_ | refine code_cond ?_ | refine code_block ?_ | refine code_scope ?_ | refine code_skip ?_ | refine code_ret ?_ | refine code_exit ?_ | (refine And.intro ?_ ?_) | (intro h; first | exact Bool.noConfusion h | (simp at h; done) | simp at h | skip) | refine eqv_len_map ?_ | refine eqv_zero ?_ | refine eqv_wrap (by omega) (by omega) ?_ | refine eqv_to _ (set_map rfl rfl) ?_ | refine ⟨_, _, (by first | rfl | assumption), at_map (by assumption), ?_⟩ | refine ⟨_, at_map (by assumption), (by decide), ?_⟩ | refine ⟨_, at_map (by assumption), ?_⟩ | (refine (?_ : _ ≤ 140737488355328); simp [rowsLen] <;> omega) | (refine (?_ : _ ≤ 9223372036854775807); simp [rowsLen] <;> omega) | (refine (?_ : _ = rowsLen _); simp [rowsLen] <;> omega) | refine eqv_to _ (app_row rfl) (eqv_to _ app_len ?_) | refine eqv_to _ (app_first rfl) (eqv_to 1 rfl ?_) | refine idx_sl (at_map (by assumption)) (by omega) ?_ | refine idx_ms _ (by first | rfl | assumption) (by first | assumption | omega) ?_ | fail)
  change vcFun _ _ _ _ _
  refine call_obj [0] [dice t k] [.ptr 0 2 0 0, vint .i64 n] rfl ⟨rfl, trivial⟩ rfl (c_next t k n ht hk hn) ?_
  rintro r H' ⟨rfl, rfl⟩
  repeat' (first | (exact (rfl : allOne _ = true)) | exact trivial | (refine (?_ : _ ≠ _); omega) | (refine (?_ : srcLen _ = rowsLen _); rfl) | (intro h; exact absurd h (Nat.succ_ne_zero _)) | (intro h; exact absurd h (Nat.not_lt_zero _))  | (exact (Nat.le_of_ble_eq_true rfl)) | (exact (by kernel_rfl : drawOk _ _ = true)) | refine ops_cons ?_ | refine ops_nil ?_ | refine opsD_cons ?_ | refine opsD_nil ?_ | refine any_step ?_ | refine any_nil ?_ | refine code_seq ?_ | refine code_region ?_ | refine code_cond ?_ | refine code_block ?_ | refine code_scope ?_ | refine code_skip ?_ | refine code_ret ?_ | refine code_exit ?_ | (refine And.intro ?_ ?_) | (intro h; first | exact Bool.noConfusion h | (simp at h; done) | simp at h | skip) | refine eqv_len_map ?_ | refine eqv_zero ?_ | refine eqv_wrap (by omega) (by omega) ?_ | refine eqv_to _ (set_map rfl rfl) ?_ | refine ⟨_, _, (by first | rfl | assumption), at_map (by assumption), ?_⟩ | refine ⟨_, at_map (by assumption), (by decide), ?_⟩ | refine ⟨_, at_map (by assumption), ?_⟩ | (refine (?_ : _ ≤ 140737488355328); simp [rowsLen] <;> omega) | (refine (?_ : _ ≤ 9223372036854775807); simp [rowsLen] <;> omega) | (refine (?_ : _ = rowsLen _); simp [rowsLen] <;> omega) | refine eqv_to _ (app_row rfl) (eqv_to _ app_len ?_) | refine eqv_to _ (app_first rfl) (eqv_to 1 rfl ?_) | refine idx_sl (at_map (by assumption)) (by omega) ?_ | refine idx_ms _ (by first | rfl | assumption) (by first | assumption | omega) ?_ | fail)
  refine ret_obj [0] [dice t (nextK t k)] rfl rfl ⟨rfl, trivial⟩ (r' := vbool (decide (nextV t k n = n - 1))) rfl ⟨rfl, rfl⟩

def Nxt (t : List Int) (k : Nat) (n v : Int) (k2 : Nat) : Prop := ACall Try.prog 24 [.ptr 0 2 0 0, vint .i64 n] [dice t k] (fun r H' => r = vint .i64 v ∧ H' = [dice t k2])
theorem nextK_le {t : List Int} {k : Nat} (h : k ≤ t.length) : nextK t k ≤ t.length := by unfold nextK; split <;> omega

theorem next_ex (t : List Int) (k : Nat) (n : Int) (ht : t.length ≤ 400) (hk : k ≤ t.length) (hn : n ≤ 9223372036854775807) (h1 : 1 ≤ n) :
    ∃ v k2, 0 ≤ v ∧ v < n ∧ k2 ≤ t.length ∧ Nxt t k n v k2 :=
  ⟨_, _, (nextV_range t k h1).1, (nextV_range t k h1).2, nextK_le hk, c_next t k n ht hk hn⟩

def One (t : List Int) (k : Nat) (n : Int) (b : Bool) (k2 : Nat) : Prop := ACall Try.prog 28 [.ptr 0 2 0 0, vint .i64 n] [dice t k] (fun r H' => r = vbool b ∧ H' = [dice t k2])
theorem one_ex (t : List Int) (k : Nat) (n : Int) (ht : t.length ≤ 400) (hk : k ≤ t.length) (hn : n ≤ 9223372036854775807) (h1 : 1 ≤ n) :
    ∃ b k2, k2 ≤ t.length ∧ One t k n b k2 :=
  ⟨_, _, nextK_le hk, c_one t k n ht hk hn h1⟩
end Go.Proofs.Ytlhakdmenohdnaa.Cw
