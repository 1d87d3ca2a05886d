/-
  Part 1 of the proof (L7, R1, R2, R3, R4, R5, R6, R7): what later parts use. No conditions.
-/
import Derived.Test.YtlhakdmenohdnaaMB6

/-
  The law FlowChecks: the walk.
-/
namespace Go.Proofs.Ytlhakdmenohdnaa.Cw
open Go.Cw Go.Proofs
set_option linter.unusedVariables false
set_option maxRecDepth 100000
set_option maxHeartbeats 4000000

theorem made_valid {n : Net} (h : MadeNet n) : validR n = 0 := by
  obtain ⟨h1, h2, h3, h4⟩ := h
  have : n.es.all (soundB n.nodes) = true := by
    rw [List.all_eq_true]
    intro e he
    have := h4 e he
    simp only [madeE] at this
    simp [soundB]; omega
  unfold validR
  rw [if_neg (by omega), if_neg (by omega), if_pos this]

/-- What Solve and Cut answer for a made network, as far as sizes go. -/
theorem made_sizes {n : Net} {f c : List Int} {e : Int} {s : List Bool} {ok : Bool} (h : MadeNet n) (hs : SolveR n f c e) (hc : CutR n s ok) :
    (f.length ≤ 11 ∧ ∀ x ∈ f, 0 ≤ x ∧ x ≤ 1000) ∧ (c.length ≤ 6 ∧ ∀ x ∈ c, -1099511627776 ≤ x ∧ x ≤ 1099511627776) ∧ s.length ≤ 6 := by
  have hv := made_valid h
  obtain ⟨h1, h2, h3, h4⟩ := h
  refine ⟨?_, ?_, ?_⟩
  · rcases hs with ⟨g1, _⟩ | ⟨_, rfl, _⟩ | ⟨_, _, ho⟩
    · exact absurd hv g1
    · simp
    · obtain ⟨k1, k2⟩ := opt_flow ho
      exact ⟨by omega, k2⟩
  · rcases hs with ⟨g1, _⟩ | ⟨_, _, rfl, _⟩ | ⟨_, _, ho⟩
    · exact absurd hv g1
    · simp
    · obtain ⟨k1, k2⟩ := opt_price ho
      exact ⟨by omega, k2⟩
  · rcases hc with ⟨g1, _⟩ | ⟨_, rfl, _⟩ | ⟨_, _, ho⟩
    · exact absurd hv g1
    · simp
    · simp only [blkB, Bool.and_eq_true, decide_eq_true_eq] at ho
      omega

theorem modI_ex (a : Int) {n : Nat} (h : 0 < n) : ∃ k : Nat, modI a (n : Int) = (k : Int) ∧ k < n := by
  have h1 := Int.emod_nonneg a (show (n : Int) ≠ 0 by omega)
  have h2 := Int.emod_lt_of_pos a (show 0 < (n : Int) by omega)
  exact ⟨(a % n).toNat, by unfold modI; rw [if_neg (by omega)]; omega, by omega⟩

theorem modI_range (a : Int) {m : Int} (h : 1 ≤ m) : 0 ≤ modI a m ∧ modI a m < m := by
  unfold modI; rw [if_neg (by omega)]; exact ⟨Int.emod_nonneg _ (by omega), Int.emod_lt_of_pos _ (by omega)⟩

theorem tdiv3 {a : Int} (h1 : -9223372036854775808 ≤ a) (h2 : a ≤ 9223372036854775807) : -9223372036854775808 ≤ a.tdiv 3 ∧ a.tdiv 3 ≤ 9223372036854775807 := by
  rcases Int.lt_or_le a 0 with h | h
  · have : a.tdiv 3 = -((-a).tdiv 3) := by rw [Int.neg_tdiv]; omega
    rw [this, Int.tdiv_eq_ediv_of_nonneg (by omega)]
    omega
  · rw [Int.tdiv_eq_ediv_of_nonneg h]; omega

theorem le_ints {g : List Int} {m : Nat} (h : g.length ≤ m) : ALe (.pv (.sl 1 (((List.map (fun x => [ei x]) g).drop 0).take m))) (encI g) := by
  rw [List.drop_zero, List.take_of_length_le (by simpa using h)]
  exact ALe.refl

theorem le_bools {g : List Bool} {m : Nat} (h : g.length ≤ m) : ALe (.pv (.sl 1 (((List.map (fun k => [.val (.bool k)]) g).drop 0).take m))) (encBs g) := by
  rw [List.drop_zero, List.take_of_length_le (by simpa using h)]
  exact ALe.refl

theorem c_flowchecks (raw : Net) (l p : List Int) (side : List Bool) (t : List Int) (at_ by_ : Int) (lo : -9223372036854775808 ≤ by_) (hi : by_ ≤ 9223372036854775807) :
    PCall Try.prog 7 [encN raw, encI l, encI p, encBs side, encI t, vint .i64 at_, vint .i64 by_] (fun r => r = vbool true) := by
  refine acall_of tok mixed 143 rfl (fn := Try.f7) (c := Try.f7.body.getD .skip) (by kernel_rfl) (by kernel_rfl) (by kernel_rfl) rfl 0 rfl ?_
  repeat' (first | (exact (rfl : allOne _ = true)) | exact trivial | (refine (?_ : _ ≠ _); omega) | (refine (?_ : srcLen _ = rowsLen _); rfl) | (intro h; exact absurd h (Nat.succ_ne_zero _)) | (intro h; exact absurd h (Nat.not_lt_zero _))  | (exact (Nat.le_of_ble_eq_true rfl)) | (exact (by kernel_rfl : drawOk _ _ = true)) | refine ops_cons ?_ | refine ops_nil ?_ | refine opsD_cons ?_ | refine opsD_nil ?_ | refine any_step ?_ | refine any_nil ?_ | refine code_seq ?_ | refine code_region ?_ | refine code_cond ?_ | refine code_block ?_ | refine code_scope ?_ | refine code_skip ?_ | refine code_ret ?_ | refine code_exit ?_ | (refine And.intro ?_ ?_) | (intro h; first | exact Bool.noConfusion h | (simp at h; done) | simp at h | skip) | refine eqv_len_map ?_ | refine eqv_zero ?_ | refine eqv_wrap (by omega) (by omega) ?_ | refine eqv_to _ (set_map rfl rfl) ?_ | refine ⟨_, _, (by first | rfl | assumption), at_map (by assumption), ?_⟩ | refine ⟨_, at_map (by assumption), (by decide), ?_⟩ | refine ⟨_, at_map (by assumption), ?_⟩ | (refine (?_ : _ ≤ 140737488355328); simp [rowsLen] <;> omega) | (refine (?_ : _ ≤ 9223372036854775807); simp [rowsLen] <;> omega) | (refine (?_ : _ = rowsLen _); simp [rowsLen] <;> omega) | refine eqv_to _ (app_row rfl) (eqv_to _ app_len ?_) | refine eqv_to _ (app_first rfl) (eqv_to 1 rfl ?_) | refine idx_sl (at_map (by assumption)) (by omega) ?_ | refine idx_ms _ (by first | rfl | assumption) (by first | assumption | omega) ?_ | fail)
  change vcFun _ _ _ _ _; refine call_eq rfl (by repeat' (first | trivial | refine And.intro ?_ ?_)) ALeL.refl (c_light t) rfl ?_
  repeat' (first | (exact (rfl : allOne _ = true)) | exact trivial | (refine (?_ : _ ≠ _); omega) | (refine (?_ : srcLen _ = rowsLen _); rfl) | (intro h; exact absurd h (Nat.succ_ne_zero _)) | (intro h; exact absurd h (Nat.not_lt_zero _))  | (exact (Nat.le_of_ble_eq_true rfl)) | (exact (by kernel_rfl : drawOk _ _ = true)) | refine ops_cons ?_ | refine ops_nil ?_ | refine opsD_cons ?_ | refine opsD_nil ?_ | refine any_step ?_ | refine any_nil ?_ | refine code_seq ?_ | refine code_region ?_ | refine code_cond ?_ | refine code_block ?_ | refine code_scope ?_ | refine code_skip ?_ | refine code_ret ?_ | refine code_exit ?_ | (refine And.intro ?_ ?_) | (intro h; first | exact Bool.noConfusion h | (simp at h; done) | simp at h | skip) | refine eqv_len_map ?_ | refine eqv_zero ?_ | refine eqv_wrap (by omega) (by omega) ?_ | refine eqv_to _ (set_map rfl rfl) ?_ | refine ⟨_, _, (by first | rfl | assumption), at_map (by assumption), ?_⟩ | refine ⟨_, at_map (by assumption), (by decide), ?_⟩ | refine ⟨_, at_map (by assumption), ?_⟩ | (refine (?_ : _ ≤ 140737488355328); simp [rowsLen] <;> omega) | (refine (?_ : _ ≤ 9223372036854775807); simp [rowsLen] <;> omega) | (refine (?_ : _ = rowsLen _); simp [rowsLen] <;> omega) | refine eqv_to _ (app_row rfl) (eqv_to _ app_len ?_) | refine eqv_to _ (app_first rfl) (eqv_to 1 rfl ?_) | refine idx_sl (at_map (by assumption)) (by omega) ?_ | refine idx_ms _ (by first | rfl | assumption) (by first | assumption | omega) ?_ | fail)
  · change vcFun _ _ _ _ _; refine call_eq rfl (by repeat' (first | trivial | refine And.intro ?_ ?_)) ALeL.refl awake_ok rfl ?_
    repeat' (first | (exact (rfl : allOne _ = true)) | exact trivial | (refine (?_ : _ ≠ _); omega) | (refine (?_ : srcLen _ = rowsLen _); rfl) | (intro h; exact absurd h (Nat.succ_ne_zero _)) | (intro h; exact absurd h (Nat.not_lt_zero _))  | (exact (Nat.le_of_ble_eq_true rfl)) | (exact (by kernel_rfl : drawOk _ _ = true)) | refine ops_cons ?_ | refine ops_nil ?_ | refine opsD_cons ?_ | refine opsD_nil ?_ | refine any_step ?_ | refine any_nil ?_ | refine code_seq ?_ | refine code_region ?_ | refine code_cond ?_ | refine code_block ?_ | refine code_scope ?_ | refine code_skip ?_ | refine code_ret ?_ | refine code_exit ?_ | (refine And.intro ?_ ?_) | (intro h; first | exact Bool.noConfusion h | (simp at h; done) | simp at h | skip) | refine eqv_len_map ?_ | refine eqv_zero ?_ | refine eqv_wrap (by omega) (by omega) ?_ | refine eqv_to _ (set_map rfl rfl) ?_ | refine ⟨_, _, (by first | rfl | assumption), at_map (by assumption), ?_⟩ | refine ⟨_, at_map (by assumption), (by decide), ?_⟩ | refine ⟨_, at_map (by assumption), ?_⟩ | (refine (?_ : _ ≤ 140737488355328); simp [rowsLen] <;> omega) | (refine (?_ : _ ≤ 9223372036854775807); simp [rowsLen] <;> omega) | (refine (?_ : _ = rowsLen _); simp [rowsLen] <;> omega) | refine eqv_to _ (app_row rfl) (eqv_to _ app_len ?_) | refine eqv_to _ (app_first rfl) (eqv_to 1 rfl ?_) | refine idx_sl (at_map (by assumption)) (by omega) ?_ | refine idx_ms _ (by first | rfl | assumption) (by first | assumption | omega) ?_ | fail)
    all_goals try (change retOk _ _ _ _; refine ret_pure rfl trivial ?_)
    rfl
  · change vcFunD _ _ _ _ _; refine callD_eq rfl (by repeat' (first | trivial | refine And.intro ?_ ?_)) ALeL.refl (c_opt raw l p) rfl ?_
    repeat' (first | (exact (rfl : allOne _ = true)) | exact trivial | (refine (?_ : _ ≠ _); omega) | (refine (?_ : srcLen _ = rowsLen _); rfl) | (intro h; exact absurd h (Nat.succ_ne_zero _)) | (intro h; exact absurd h (Nat.not_lt_zero _))  | (exact (Nat.le_of_ble_eq_true rfl)) | (exact (by kernel_rfl : drawOk _ _ = true)) | refine ops_cons ?_ | refine ops_nil ?_ | refine opsD_cons ?_ | refine opsD_nil ?_ | refine any_step ?_ | refine any_nil ?_ | refine code_seq ?_ | refine code_region ?_ | refine code_cond ?_ | refine code_block ?_ | refine code_scope ?_ | refine code_skip ?_ | refine code_ret ?_ | refine code_exit ?_ | (refine And.intro ?_ ?_) | (intro h; first | exact Bool.noConfusion h | (simp at h; done) | simp at h | skip) | refine eqv_len_map ?_ | refine eqv_zero ?_ | refine eqv_wrap (by omega) (by omega) ?_ | refine eqv_to _ (set_map rfl rfl) ?_ | refine ⟨_, _, (by first | rfl | assumption), at_map (by assumption), ?_⟩ | refine ⟨_, at_map (by assumption), (by decide), ?_⟩ | refine ⟨_, at_map (by assumption), ?_⟩ | (refine (?_ : _ ≤ 140737488355328); simp [rowsLen] <;> omega) | (refine (?_ : _ ≤ 9223372036854775807); simp [rowsLen] <;> omega) | (refine (?_ : _ = rowsLen _); simp [rowsLen] <;> omega) | refine eqv_to _ (app_row rfl) (eqv_to _ app_len ?_) | refine eqv_to _ (app_first rfl) (eqv_to 1 rfl ?_) | refine idx_sl (at_map (by assumption)) (by omega) ?_ | refine idx_ms _ (by first | rfl | assumption) (by first | assumption | omega) ?_ | fail)
    change vcFunD _ _ _ _ _; refine callD_eq rfl (by repeat' (first | trivial | refine And.intro ?_ ?_)) ALeL.refl (c_ropt raw l p) rfl ?_
    repeat' (first | (exact (rfl : allOne _ = true)) | exact trivial | (refine (?_ : _ ≠ _); omega) | (refine (?_ : srcLen _ = rowsLen _); rfl) | (intro h; exact absurd h (Nat.succ_ne_zero _)) | (intro h; exact absurd h (Nat.not_lt_zero _))  | (exact (Nat.le_of_ble_eq_true rfl)) | (exact (by kernel_rfl : drawOk _ _ = true)) | refine ops_cons ?_ | refine ops_nil ?_ | refine opsD_cons ?_ | refine opsD_nil ?_ | refine any_step ?_ | refine any_nil ?_ | refine code_seq ?_ | refine code_region ?_ | refine code_cond ?_ | refine code_block ?_ | refine code_scope ?_ | refine code_skip ?_ | refine code_ret ?_ | refine code_exit ?_ | (refine And.intro ?_ ?_) | (intro h; first | exact Bool.noConfusion h | (simp at h; done) | simp at h | skip) | refine eqv_len_map ?_ | refine eqv_zero ?_ | refine eqv_wrap (by omega) (by omega) ?_ | refine eqv_to _ (set_map rfl rfl) ?_ | refine ⟨_, _, (by first | rfl | assumption), at_map (by assumption), ?_⟩ | refine ⟨_, at_map (by assumption), (by decide), ?_⟩ | refine ⟨_, at_map (by assumption), ?_⟩ | (refine (?_ : _ ≤ 140737488355328); simp [rowsLen] <;> omega) | (refine (?_ : _ ≤ 9223372036854775807); simp [rowsLen] <;> omega) | (refine (?_ : _ = rowsLen _); simp [rowsLen] <;> omega) | refine eqv_to _ (app_row rfl) (eqv_to _ app_len ?_) | refine eqv_to _ (app_first rfl) (eqv_to 1 rfl ?_) | refine idx_sl (at_map (by assumption)) (by omega) ?_ | refine idx_ms _ (by first | rfl | assumption) (by first | assumption | omega) ?_ | fail)
    · change vcFunD _ _ _ _ _; refine callD_eq rfl (by repeat' (first | trivial | refine And.intro ?_ ?_)) ALeL.refl (c_blk raw side) rfl ?_
      repeat' (first | (exact (rfl : allOne _ = true)) | exact trivial | (refine (?_ : _ ≠ _); omega) | (refine (?_ : srcLen _ = rowsLen _); rfl) | (intro h; exact absurd h (Nat.succ_ne_zero _)) | (intro h; exact absurd h (Nat.not_lt_zero _))  | (exact (Nat.le_of_ble_eq_true rfl)) | (exact (by kernel_rfl : drawOk _ _ = true)) | refine ops_cons ?_ | refine ops_nil ?_ | refine opsD_cons ?_ | refine opsD_nil ?_ | refine any_step ?_ | refine any_nil ?_ | refine code_seq ?_ | refine code_region ?_ | refine code_cond ?_ | refine code_block ?_ | refine code_scope ?_ | refine code_skip ?_ | refine code_ret ?_ | refine code_exit ?_ | (refine And.intro ?_ ?_) | (intro h; first | exact Bool.noConfusion h | (simp at h; done) | simp at h | skip) | refine eqv_len_map ?_ | refine eqv_zero ?_ | refine eqv_wrap (by omega) (by omega) ?_ | refine eqv_to _ (set_map rfl rfl) ?_ | refine ⟨_, _, (by first | rfl | assumption), at_map (by assumption), ?_⟩ | refine ⟨_, at_map (by assumption), (by decide), ?_⟩ | refine ⟨_, at_map (by assumption), ?_⟩ | (refine (?_ : _ ≤ 140737488355328); simp [rowsLen] <;> omega) | (refine (?_ : _ ≤ 9223372036854775807); simp [rowsLen] <;> omega) | (refine (?_ : _ = rowsLen _); simp [rowsLen] <;> omega) | refine eqv_to _ (app_row rfl) (eqv_to _ app_len ?_) | refine eqv_to _ (app_first rfl) (eqv_to 1 rfl ?_) | refine idx_sl (at_map (by assumption)) (by omega) ?_ | refine idx_ms _ (by first | rfl | assumption) (by first | assumption | omega) ?_ | fail)
      change vcFunD _ _ _ _ _; refine callD_eq rfl (by repeat' (first | trivial | refine And.intro ?_ ?_)) ALeL.refl (c_rblk raw side) rfl ?_
      repeat' (first | (exact (rfl : allOne _ = true)) | exact trivial | (refine (?_ : _ ≠ _); omega) | (refine (?_ : srcLen _ = rowsLen _); rfl) | (intro h; exact absurd h (Nat.succ_ne_zero _)) | (intro h; exact absurd h (Nat.not_lt_zero _))  | (exact (Nat.le_of_ble_eq_true rfl)) | (exact (by kernel_rfl : drawOk _ _ = true)) | refine ops_cons ?_ | refine ops_nil ?_ | refine opsD_cons ?_ | refine opsD_nil ?_ | refine any_step ?_ | refine any_nil ?_ | refine code_seq ?_ | refine code_region ?_ | refine code_cond ?_ | refine code_block ?_ | refine code_scope ?_ | refine code_skip ?_ | refine code_ret ?_ | refine code_exit ?_ | (refine And.intro ?_ ?_) | (intro h; first | exact Bool.noConfusion h | (simp at h; done) | simp at h | skip) | refine eqv_len_map ?_ | refine eqv_zero ?_ | refine eqv_wrap (by omega) (by omega) ?_ | refine eqv_to _ (set_map rfl rfl) ?_ | refine ⟨_, _, (by first | rfl | assumption), at_map (by assumption), ?_⟩ | refine ⟨_, at_map (by assumption), (by decide), ?_⟩ | refine ⟨_, at_map (by assumption), ?_⟩ | (refine (?_ : _ ≤ 140737488355328); simp [rowsLen] <;> omega) | (refine (?_ : _ ≤ 9223372036854775807); simp [rowsLen] <;> omega) | (refine (?_ : _ = rowsLen _); simp [rowsLen] <;> omega) | refine eqv_to _ (app_row rfl) (eqv_to _ app_len ?_) | refine eqv_to _ (app_first rfl) (eqv_to 1 rfl ?_) | refine idx_sl (at_map (by assumption)) (by omega) ?_ | refine idx_ms _ (by first | rfl | assumption) (by first | assumption | omega) ?_ | fail)
      change vcFun _ _ _ _ _; refine call_new [encI t] rfl (c_roll t) (fun _ _ => rfl) ?_
      repeat' (first | (exact (rfl : allOne _ = true)) | exact trivial | (refine (?_ : _ ≠ _); omega) | (refine (?_ : srcLen _ = rowsLen _); rfl) | (intro h; exact absurd h (Nat.succ_ne_zero _)) | (intro h; exact absurd h (Nat.not_lt_zero _))  | (exact (Nat.le_of_ble_eq_true rfl)) | (exact (by kernel_rfl : drawOk _ _ = true)) | refine ops_cons ?_ | refine ops_nil ?_ | refine opsD_cons ?_ | refine opsD_nil ?_ | refine any_step ?_ | refine any_nil ?_ | refine code_seq ?_ | refine code_region ?_ | refine code_cond ?_ | refine code_block ?_ | refine code_scope ?_ | refine code_skip ?_ | refine code_ret ?_ | refine code_exit ?_ | (refine And.intro ?_ ?_) | (intro h; first | exact Bool.noConfusion h | (simp at h; done) | simp at h | skip) | refine eqv_len_map ?_ | refine eqv_zero ?_ | refine eqv_wrap (by omega) (by omega) ?_ | refine eqv_to _ (set_map rfl rfl) ?_ | refine ⟨_, _, (by first | rfl | assumption), at_map (by assumption), ?_⟩ | refine ⟨_, at_map (by assumption), (by decide), ?_⟩ | refine ⟨_, at_map (by assumption), ?_⟩ | (refine (?_ : _ ≤ 140737488355328); simp [rowsLen] <;> omega) | (refine (?_ : _ ≤ 9223372036854775807); simp [rowsLen] <;> omega) | (refine (?_ : _ = rowsLen _); simp [rowsLen] <;> omega) | refine eqv_to _ (app_row rfl) (eqv_to _ app_len ?_) | refine eqv_to _ (app_first rfl) (eqv_to 1 rfl ?_) | refine idx_sl (at_map (by assumption)) (by omega) ?_ | refine idx_ms _ (by first | rfl | assumption) (by first | assumption | omega) ?_ | fail)
      change vcFun _ _ _ _ _
      refine call_one (i := 2) rfl (fun _ _ => rfl) [.ptr 0 2 0 0] rfl (c_net t 0 (by assumption) (Nat.zero_le _)) ?_
      rintro r H' ⟨n, k0, hn, hk, rfl, rfl⟩
      refine ⟨_, rfl, fun _ _ => rfl, fun _ _ => rfl, ?_⟩
      repeat' (first | (exact (rfl : allOne _ = true)) | exact trivial | (refine (?_ : _ ≠ _); omega) | (refine (?_ : srcLen _ = rowsLen _); rfl) | (intro h; exact absurd h (Nat.succ_ne_zero _)) | (intro h; exact absurd h (Nat.not_lt_zero _))  | (exact (Nat.le_of_ble_eq_true rfl)) | (exact (by kernel_rfl : drawOk _ _ = true)) | refine ops_cons ?_ | refine ops_nil ?_ | refine opsD_cons ?_ | refine opsD_nil ?_ | refine any_step ?_ | refine any_nil ?_ | refine code_seq ?_ | refine code_region ?_ | refine code_cond ?_ | refine code_block ?_ | refine code_scope ?_ | refine code_skip ?_ | refine code_ret ?_ | refine code_exit ?_ | (refine And.intro ?_ ?_) | (intro h; first | exact Bool.noConfusion h | (simp at h; done) | simp at h | skip) | refine eqv_len_map ?_ | refine eqv_zero ?_ | refine eqv_wrap (by omega) (by omega) ?_ | refine eqv_to _ (set_map rfl rfl) ?_ | refine ⟨_, _, (by first | rfl | assumption), at_map (by assumption), ?_⟩ | refine ⟨_, at_map (by assumption), (by decide), ?_⟩ | refine ⟨_, at_map (by assumption), ?_⟩ | (refine (?_ : _ ≤ 140737488355328); simp [rowsLen] <;> omega) | (refine (?_ : _ ≤ 9223372036854775807); simp [rowsLen] <;> omega) | (refine (?_ : _ = rowsLen _); simp [rowsLen] <;> omega) | refine eqv_to _ (app_row rfl) (eqv_to _ app_len ?_) | refine eqv_to _ (app_first rfl) (eqv_to 1 rfl ?_) | refine idx_sl (at_map (by assumption)) (by omega) ?_ | refine idx_ms _ (by first | rfl | assumption) (by first | assumption | omega) ?_ | fail)
      change vcFun _ _ _ _ _
      refine call_frz rfl (by repeat' (first | trivial | refine And.intro ?_ ?_)) ALeL.refl (c_solveP n) ?_
      rintro r ⟨f, c, e, rfl, hs⟩
      repeat' (first | (exact (rfl : allOne _ = true)) | exact trivial | (refine (?_ : _ ≠ _); omega) | (refine (?_ : srcLen _ = rowsLen _); rfl) | (intro h; exact absurd h (Nat.succ_ne_zero _)) | (intro h; exact absurd h (Nat.not_lt_zero _))  | (exact (Nat.le_of_ble_eq_true rfl)) | (exact (by kernel_rfl : drawOk _ _ = true)) | refine ops_cons ?_ | refine ops_nil ?_ | refine opsD_cons ?_ | refine opsD_nil ?_ | refine any_step ?_ | refine any_nil ?_ | refine code_seq ?_ | refine code_region ?_ | refine code_cond ?_ | refine code_block ?_ | refine code_scope ?_ | refine code_skip ?_ | refine code_ret ?_ | refine code_exit ?_ | (refine And.intro ?_ ?_) | (intro h; first | exact Bool.noConfusion h | (simp at h; done) | simp at h | skip) | refine eqv_len_map ?_ | refine eqv_zero ?_ | refine eqv_wrap (by omega) (by omega) ?_ | refine eqv_to _ (set_map rfl rfl) ?_ | refine ⟨_, _, (by first | rfl | assumption), at_map (by assumption), ?_⟩ | refine ⟨_, at_map (by assumption), (by decide), ?_⟩ | refine ⟨_, at_map (by assumption), ?_⟩ | (refine (?_ : _ ≤ 140737488355328); simp [rowsLen] <;> omega) | (refine (?_ : _ ≤ 9223372036854775807); simp [rowsLen] <;> omega) | (refine (?_ : _ = rowsLen _); simp [rowsLen] <;> omega) | refine eqv_to _ (app_row rfl) (eqv_to _ app_len ?_) | refine eqv_to _ (app_first rfl) (eqv_to 1 rfl ?_) | refine idx_sl (at_map (by assumption)) (by omega) ?_ | refine idx_ms _ (by first | rfl | assumption) (by first | assumption | omega) ?_ | fail)
      change vcFun _ _ _ _ _
      refine call_frz rfl (by repeat' (first | trivial | refine And.intro ?_ ?_)) ALeL.refl (c_cutP n) ?_
      rintro r ⟨s, ok, rfl, hc⟩
      obtain ⟨⟨f1, f2⟩, ⟨c1, c2⟩, s1⟩ := made_sizes hn hs hc
      clear hs hc
      obtain ⟨q1, q2⟩ := modI_range by_ (m := 3) (by decide)
      obtain ⟨q3, q4⟩ := modI_range (by_.tdiv 3) (m := 5) (by decide)
      obtain ⟨q5, q6⟩ := tdiv3 lo hi
      rcases f with _ | ⟨f0, fr⟩
      all_goals rcases c with _ | ⟨p0, pr⟩
      all_goals rcases s with _ | ⟨s0, sr⟩
      all_goals simp only [List.length_cons, List.length_nil] at f1 c1 s1
      all_goals repeat' (first | (exact (rfl : allOne _ = true)) | exact trivial | (refine (?_ : _ ≠ _); omega) | (refine (?_ : srcLen _ = rowsLen _); rfl) | (intro h; exact absurd h (Nat.succ_ne_zero _)) | (intro h; exact absurd h (Nat.not_lt_zero _))  | (exact (Nat.le_of_ble_eq_true rfl)) | (exact (by kernel_rfl : drawOk _ _ = true)) | refine ops_cons ?_ | refine ops_nil ?_ | refine opsD_cons ?_ | refine opsD_nil ?_ | refine any_step ?_ | refine any_nil ?_ | refine code_seq ?_ | refine code_region ?_ | refine code_cond ?_ | refine code_block ?_ | refine code_scope ?_ | refine code_skip ?_ | refine code_ret ?_ | refine code_exit ?_ | (refine And.intro ?_ ?_) | (intro h; first | exact Bool.noConfusion h | (simp at h; done) | simp at h | skip) | refine eqv_len_map ?_ | refine eqv_zero ?_ | refine eqv_wrap (by omega) (by omega) ?_ | refine eqv_to _ (set_map rfl rfl) ?_ | refine ⟨_, _, (by first | rfl | assumption), at_map (by assumption), ?_⟩ | refine ⟨_, at_map (by assumption), (by decide), ?_⟩ | refine ⟨_, at_map (by assumption), ?_⟩ | (refine (?_ : _ ≤ 140737488355328); simp [rowsLen] <;> omega) | (refine (?_ : _ ≤ 9223372036854775807); simp [rowsLen] <;> omega) | (refine (?_ : _ = rowsLen _); simp [rowsLen] <;> omega) | refine eqv_to _ (app_row rfl) (eqv_to _ app_len ?_) | refine eqv_to _ (app_first rfl) (eqv_to 1 rfl ?_) | refine idx_sl (at_map (by assumption)) (by omega) ?_ | refine idx_ms _ (by first | rfl | assumption) (by first | assumption | omega) ?_ | fail)
      all_goals try
        obtain ⟨k, hk, hkl⟩ := modI_ex at_ (n := (f0 :: fr).length) (Nat.succ_pos _)
        obtain ⟨x, hx⟩ := getE hkl
        obtain ⟨x1, x2⟩ := f2 x (List.mem_of_getElem? hx)
        refine eqv_rfl (eqv_to (f0 :: fr).length (by simp [rowsLen]) ?_)
        repeat' (first | (exact (rfl : allOne _ = true)) | exact trivial | (refine (?_ : _ ≠ _); omega) | (refine (?_ : srcLen _ = rowsLen _); rfl) | (intro h; exact absurd h (Nat.succ_ne_zero _)) | (intro h; exact absurd h (Nat.not_lt_zero _))  | (exact (Nat.le_of_ble_eq_true rfl)) | (exact (by kernel_rfl : drawOk _ _ = true)) | refine ops_cons ?_ | refine ops_nil ?_ | refine opsD_cons ?_ | refine opsD_nil ?_ | refine any_step ?_ | refine any_nil ?_ | refine code_seq ?_ | refine code_region ?_ | refine code_cond ?_ | refine code_block ?_ | refine code_scope ?_ | refine code_skip ?_ | refine code_ret ?_ | refine code_exit ?_ | (refine And.intro ?_ ?_) | (intro h; first | exact Bool.noConfusion h | (simp at h; done) | simp at h | skip) | refine eqv_len_map ?_ | refine eqv_zero ?_ | refine eqv_wrap (by omega) (by omega) ?_ | refine eqv_to _ (set_map rfl rfl) ?_ | refine ⟨_, _, (by first | rfl | assumption), at_map (by assumption), ?_⟩ | refine ⟨_, at_map (by assumption), (by decide), ?_⟩ | refine ⟨_, at_map (by assumption), ?_⟩ | (refine (?_ : _ ≤ 140737488355328); simp [rowsLen] <;> omega) | (refine (?_ : _ ≤ 9223372036854775807); simp [rowsLen] <;> omega) | (refine (?_ : _ = rowsLen _); simp [rowsLen] <;> omega) | refine eqv_to _ (app_row rfl) (eqv_to _ app_len ?_) | refine eqv_to _ (app_first rfl) (eqv_to 1 rfl ?_) | refine idx_sl (at_map (by assumption)) (by omega) ?_ | refine idx_ms _ (by first | rfl | assumption) (by first | assumption | omega) ?_ | fail)
        change vcFunD _ _ _ _ _; refine callD_eq rfl (by repeat' (first | trivial | refine And.intro ?_ ?_)) ALeL.refl (c_mod at_ (f0 :: fr).length (by simp only [List.length_cons]; omega)) rfl ?_
        rw [hk]
        repeat' (first | (exact (rfl : allOne _ = true)) | exact trivial | (refine (?_ : _ ≠ _); omega) | (refine (?_ : srcLen _ = rowsLen _); rfl) | (intro h; exact absurd h (Nat.succ_ne_zero _)) | (intro h; exact absurd h (Nat.not_lt_zero _))  | (exact (Nat.le_of_ble_eq_true rfl)) | (exact (by kernel_rfl : drawOk _ _ = true)) | refine ops_cons ?_ | refine ops_nil ?_ | refine opsD_cons ?_ | refine opsD_nil ?_ | refine any_step ?_ | refine any_nil ?_ | refine code_seq ?_ | refine code_region ?_ | refine code_cond ?_ | refine code_block ?_ | refine code_scope ?_ | refine code_skip ?_ | refine code_ret ?_ | refine code_exit ?_ | (refine And.intro ?_ ?_) | (intro h; first | exact Bool.noConfusion h | (simp at h; done) | simp at h | skip) | refine eqv_len_map ?_ | refine eqv_zero ?_ | refine eqv_wrap (by omega) (by omega) ?_ | refine eqv_to _ (set_map rfl rfl) ?_ | refine ⟨_, _, (by first | rfl | assumption), at_map (by assumption), ?_⟩ | refine ⟨_, at_map (by assumption), (by decide), ?_⟩ | refine ⟨_, at_map (by assumption), ?_⟩ | (refine (?_ : _ ≤ 140737488355328); simp [rowsLen] <;> omega) | (refine (?_ : _ ≤ 9223372036854775807); simp [rowsLen] <;> omega) | (refine (?_ : _ = rowsLen _); simp [rowsLen] <;> omega) | refine eqv_to _ (app_row rfl) (eqv_to _ app_len ?_) | refine eqv_to _ (app_first rfl) (eqv_to 1 rfl ?_) | refine idx_sl (at_map (by assumption)) (by omega) ?_ | refine idx_ms _ (by first | rfl | assumption) (by first | assumption | omega) ?_ | fail)
        change vcFunD _ _ _ _ _; refine callD_eq rfl (by repeat' (first | trivial | refine And.intro ?_ ?_)) ALeL.refl (c_mod by_ 3 (by decide)) rfl ?_
        repeat' (first | (exact (rfl : allOne _ = true)) | exact trivial | (refine (?_ : _ ≠ _); omega) | (refine (?_ : srcLen _ = rowsLen _); rfl) | (intro h; exact absurd h (Nat.succ_ne_zero _)) | (intro h; exact absurd h (Nat.not_lt_zero _))  | (exact (Nat.le_of_ble_eq_true rfl)) | (exact (by kernel_rfl : drawOk _ _ = true)) | refine ops_cons ?_ | refine ops_nil ?_ | refine opsD_cons ?_ | refine opsD_nil ?_ | refine any_step ?_ | refine any_nil ?_ | refine code_seq ?_ | refine code_region ?_ | refine code_cond ?_ | refine code_block ?_ | refine code_scope ?_ | refine code_skip ?_ | refine code_ret ?_ | refine code_exit ?_ | (refine And.intro ?_ ?_) | (intro h; first | exact Bool.noConfusion h | (simp at h; done) | simp at h | skip) | refine eqv_len_map ?_ | refine eqv_zero ?_ | refine eqv_wrap (by omega) (by omega) ?_ | refine eqv_to _ (set_map rfl rfl) ?_ | refine ⟨_, _, (by first | rfl | assumption), at_map (by assumption), ?_⟩ | refine ⟨_, at_map (by assumption), (by decide), ?_⟩ | refine ⟨_, at_map (by assumption), ?_⟩ | (refine (?_ : _ ≤ 140737488355328); simp [rowsLen] <;> omega) | (refine (?_ : _ ≤ 9223372036854775807); simp [rowsLen] <;> omega) | (refine (?_ : _ = rowsLen _); simp [rowsLen] <;> omega) | refine eqv_to _ (app_row rfl) (eqv_to _ app_len ?_) | refine eqv_to _ (app_first rfl) (eqv_to 1 rfl ?_) | refine idx_sl (at_map (by assumption)) (by omega) ?_ | refine idx_ms _ (by first | rfl | assumption) (by first | assumption | omega) ?_ | fail)
      all_goals try
        obtain ⟨k, hk, hkl⟩ := modI_ex at_ (n := (p0 :: pr).length) (Nat.succ_pos _)
        obtain ⟨y, hy⟩ := getE hkl
        obtain ⟨y1, y2⟩ := c2 y (List.mem_of_getElem? hy)
        refine eqv_rfl (eqv_to (p0 :: pr).length (by simp [rowsLen]) ?_)
        repeat' (first | (exact (rfl : allOne _ = true)) | exact trivial | (refine (?_ : _ ≠ _); omega) | (refine (?_ : srcLen _ = rowsLen _); rfl) | (intro h; exact absurd h (Nat.succ_ne_zero _)) | (intro h; exact absurd h (Nat.not_lt_zero _))  | (exact (Nat.le_of_ble_eq_true rfl)) | (exact (by kernel_rfl : drawOk _ _ = true)) | refine ops_cons ?_ | refine ops_nil ?_ | refine opsD_cons ?_ | refine opsD_nil ?_ | refine any_step ?_ | refine any_nil ?_ | refine code_seq ?_ | refine code_region ?_ | refine code_cond ?_ | refine code_block ?_ | refine code_scope ?_ | refine code_skip ?_ | refine code_ret ?_ | refine code_exit ?_ | (refine And.intro ?_ ?_) | (intro h; first | exact Bool.noConfusion h | (simp at h; done) | simp at h | skip) | refine eqv_len_map ?_ | refine eqv_zero ?_ | refine eqv_wrap (by omega) (by omega) ?_ | refine eqv_to _ (set_map rfl rfl) ?_ | refine ⟨_, _, (by first | rfl | assumption), at_map (by assumption), ?_⟩ | refine ⟨_, at_map (by assumption), (by decide), ?_⟩ | refine ⟨_, at_map (by assumption), ?_⟩ | (refine (?_ : _ ≤ 140737488355328); simp [rowsLen] <;> omega) | (refine (?_ : _ ≤ 9223372036854775807); simp [rowsLen] <;> omega) | (refine (?_ : _ = rowsLen _); simp [rowsLen] <;> omega) | refine eqv_to _ (app_row rfl) (eqv_to _ app_len ?_) | refine eqv_to _ (app_first rfl) (eqv_to 1 rfl ?_) | refine idx_sl (at_map (by assumption)) (by omega) ?_ | refine idx_ms _ (by first | rfl | assumption) (by first | assumption | omega) ?_ | fail)
        change vcFunD _ _ _ _ _; refine callD_eq rfl (by repeat' (first | trivial | refine And.intro ?_ ?_)) ALeL.refl (c_mod at_ (p0 :: pr).length (by simp only [List.length_cons]; omega)) rfl ?_
        rw [hk]
        repeat' (first | (exact (rfl : allOne _ = true)) | exact trivial | (refine (?_ : _ ≠ _); omega) | (refine (?_ : srcLen _ = rowsLen _); rfl) | (intro h; exact absurd h (Nat.succ_ne_zero _)) | (intro h; exact absurd h (Nat.not_lt_zero _))  | (exact (Nat.le_of_ble_eq_true rfl)) | (exact (by kernel_rfl : drawOk _ _ = true)) | refine ops_cons ?_ | refine ops_nil ?_ | refine opsD_cons ?_ | refine opsD_nil ?_ | refine any_step ?_ | refine any_nil ?_ | refine code_seq ?_ | refine code_region ?_ | refine code_cond ?_ | refine code_block ?_ | refine code_scope ?_ | refine code_skip ?_ | refine code_ret ?_ | refine code_exit ?_ | (refine And.intro ?_ ?_) | (intro h; first | exact Bool.noConfusion h | (simp at h; done) | simp at h | skip) | refine eqv_len_map ?_ | refine eqv_zero ?_ | refine eqv_wrap (by omega) (by omega) ?_ | refine eqv_to _ (set_map rfl rfl) ?_ | refine ⟨_, _, (by first | rfl | assumption), at_map (by assumption), ?_⟩ | refine ⟨_, at_map (by assumption), (by decide), ?_⟩ | refine ⟨_, at_map (by assumption), ?_⟩ | (refine (?_ : _ ≤ 140737488355328); simp [rowsLen] <;> omega) | (refine (?_ : _ ≤ 9223372036854775807); simp [rowsLen] <;> omega) | (refine (?_ : _ = rowsLen _); simp [rowsLen] <;> omega) | refine eqv_to _ (app_row rfl) (eqv_to _ app_len ?_) | refine eqv_to _ (app_first rfl) (eqv_to 1 rfl ?_) | refine idx_sl (at_map (by assumption)) (by omega) ?_ | refine idx_ms _ (by first | rfl | assumption) (by first | assumption | omega) ?_ | fail)
        change vcFunD _ _ _ _ _; refine callD_eq rfl (by repeat' (first | trivial | refine And.intro ?_ ?_)) ALeL.refl (c_mod (by_.tdiv 3) 5 (by decide)) rfl ?_
        repeat' (first | (exact (rfl : allOne _ = true)) | exact trivial | (refine (?_ : _ ≠ _); omega) | (refine (?_ : srcLen _ = rowsLen _); rfl) | (intro h; exact absurd h (Nat.succ_ne_zero _)) | (intro h; exact absurd h (Nat.not_lt_zero _))  | (exact (Nat.le_of_ble_eq_true rfl)) | (exact (by kernel_rfl : drawOk _ _ = true)) | refine ops_cons ?_ | refine ops_nil ?_ | refine opsD_cons ?_ | refine opsD_nil ?_ | refine any_step ?_ | refine any_nil ?_ | refine code_seq ?_ | refine code_region ?_ | refine code_cond ?_ | refine code_block ?_ | refine code_scope ?_ | refine code_skip ?_ | refine code_ret ?_ | refine code_exit ?_ | (refine And.intro ?_ ?_) | (intro h; first | exact Bool.noConfusion h | (simp at h; done) | simp at h | skip) | refine eqv_len_map ?_ | refine eqv_zero ?_ | refine eqv_wrap (by omega) (by omega) ?_ | refine eqv_to _ (set_map rfl rfl) ?_ | refine ⟨_, _, (by first | rfl | assumption), at_map (by assumption), ?_⟩ | refine ⟨_, at_map (by assumption), (by decide), ?_⟩ | refine ⟨_, at_map (by assumption), ?_⟩ | (refine (?_ : _ ≤ 140737488355328); simp [rowsLen] <;> omega) | (refine (?_ : _ ≤ 9223372036854775807); simp [rowsLen] <;> omega) | (refine (?_ : _ = rowsLen _); simp [rowsLen] <;> omega) | refine eqv_to _ (app_row rfl) (eqv_to _ app_len ?_) | refine eqv_to _ (app_first rfl) (eqv_to 1 rfl ?_) | refine idx_sl (at_map (by assumption)) (by omega) ?_ | refine idx_ms _ (by first | rfl | assumption) (by first | assumption | omega) ?_ | fail)
      all_goals try
        obtain ⟨k, hk, hkl⟩ := modI_ex at_ (n := (s0 :: sr).length) (Nat.succ_pos _)
        obtain ⟨z, hz⟩ := getE hkl
        refine eqv_rfl (eqv_to (s0 :: sr).length (by simp [rowsLen]) ?_)
        repeat' (first | (exact (rfl : allOne _ = true)) | exact trivial | (refine (?_ : _ ≠ _); omega) | (refine (?_ : srcLen _ = rowsLen _); rfl) | (intro h; exact absurd h (Nat.succ_ne_zero _)) | (intro h; exact absurd h (Nat.not_lt_zero _))  | (exact (Nat.le_of_ble_eq_true rfl)) | (exact (by kernel_rfl : drawOk _ _ = true)) | refine ops_cons ?_ | refine ops_nil ?_ | refine opsD_cons ?_ | refine opsD_nil ?_ | refine any_step ?_ | refine any_nil ?_ | refine code_seq ?_ | refine code_region ?_ | refine code_cond ?_ | refine code_block ?_ | refine code_scope ?_ | refine code_skip ?_ | refine code_ret ?_ | refine code_exit ?_ | (refine And.intro ?_ ?_) | (intro h; first | exact Bool.noConfusion h | (simp at h; done) | simp at h | skip) | refine eqv_len_map ?_ | refine eqv_zero ?_ | refine eqv_wrap (by omega) (by omega) ?_ | refine eqv_to _ (set_map rfl rfl) ?_ | refine ⟨_, _, (by first | rfl | assumption), at_map (by assumption), ?_⟩ | refine ⟨_, at_map (by assumption), (by decide), ?_⟩ | refine ⟨_, at_map (by assumption), ?_⟩ | (refine (?_ : _ ≤ 140737488355328); simp [rowsLen] <;> omega) | (refine (?_ : _ ≤ 9223372036854775807); simp [rowsLen] <;> omega) | (refine (?_ : _ = rowsLen _); simp [rowsLen] <;> omega) | refine eqv_to _ (app_row rfl) (eqv_to _ app_len ?_) | refine eqv_to _ (app_first rfl) (eqv_to 1 rfl ?_) | refine idx_sl (at_map (by assumption)) (by omega) ?_ | refine idx_ms _ (by first | rfl | assumption) (by first | assumption | omega) ?_ | fail)
        change vcFun _ _ _ _ _; refine call_eq rfl (by repeat' (first | trivial | refine And.intro ?_ ?_)) ALeL.refl (c_mod at_ (s0 :: sr).length (by simp only [List.length_cons]; omega)) rfl ?_
        rw [hk]
        repeat' (first | (exact (rfl : allOne _ = true)) | exact trivial | (refine (?_ : _ ≠ _); omega) | (refine (?_ : srcLen _ = rowsLen _); rfl) | (intro h; exact absurd h (Nat.succ_ne_zero _)) | (intro h; exact absurd h (Nat.not_lt_zero _))  | (exact (Nat.le_of_ble_eq_true rfl)) | (exact (by kernel_rfl : drawOk _ _ = true)) | refine ops_cons ?_ | refine ops_nil ?_ | refine opsD_cons ?_ | refine opsD_nil ?_ | refine any_step ?_ | refine any_nil ?_ | refine code_seq ?_ | refine code_region ?_ | refine code_cond ?_ | refine code_block ?_ | refine code_scope ?_ | refine code_skip ?_ | refine code_ret ?_ | refine code_exit ?_ | (refine And.intro ?_ ?_) | (intro h; first | exact Bool.noConfusion h | (simp at h; done) | simp at h | skip) | refine eqv_len_map ?_ | refine eqv_zero ?_ | refine eqv_wrap (by omega) (by omega) ?_ | refine eqv_to _ (set_map rfl rfl) ?_ | refine ⟨_, _, (by first | rfl | assumption), at_map (by assumption), ?_⟩ | refine ⟨_, at_map (by assumption), (by decide), ?_⟩ | refine ⟨_, at_map (by assumption), ?_⟩ | (refine (?_ : _ ≤ 140737488355328); simp [rowsLen] <;> omega) | (refine (?_ : _ ≤ 9223372036854775807); simp [rowsLen] <;> omega) | (refine (?_ : _ = rowsLen _); simp [rowsLen] <;> omega) | refine eqv_to _ (app_row rfl) (eqv_to _ app_len ?_) | refine eqv_to _ (app_first rfl) (eqv_to 1 rfl ?_) | refine idx_sl (at_map (by assumption)) (by omega) ?_ | refine idx_ms _ (by first | rfl | assumption) (by first | assumption | omega) ?_ | fail)
        change vcFun _ _ _ _ _; refine call_eq rfl (by repeat' (first | trivial | refine And.intro ?_ ?_)) ALeL.refl (c_mod at_ (s0 :: sr).length (by simp only [List.length_cons]; omega)) rfl ?_
        rw [hk]
        repeat' (first | (exact (rfl : allOne _ = true)) | exact trivial | (refine (?_ : _ ≠ _); omega) | (refine (?_ : srcLen _ = rowsLen _); rfl) | (intro h; exact absurd h (Nat.succ_ne_zero _)) | (intro h; exact absurd h (Nat.not_lt_zero _))  | (exact (Nat.le_of_ble_eq_true rfl)) | (exact (by kernel_rfl : drawOk _ _ = true)) | refine ops_cons ?_ | refine ops_nil ?_ | refine opsD_cons ?_ | refine opsD_nil ?_ | refine any_step ?_ | refine any_nil ?_ | refine code_seq ?_ | refine code_region ?_ | refine code_cond ?_ | refine code_block ?_ | refine code_scope ?_ | refine code_skip ?_ | refine code_ret ?_ | refine code_exit ?_ | (refine And.intro ?_ ?_) | (intro h; first | exact Bool.noConfusion h | (simp at h; done) | simp at h | skip) | refine eqv_len_map ?_ | refine eqv_zero ?_ | refine eqv_wrap (by omega) (by omega) ?_ | refine eqv_to _ (set_map rfl rfl) ?_ | refine ⟨_, _, (by first | rfl | assumption), at_map (by assumption), ?_⟩ | refine ⟨_, at_map (by assumption), (by decide), ?_⟩ | refine ⟨_, at_map (by assumption), ?_⟩ | (refine (?_ : _ ≤ 140737488355328); simp [rowsLen] <;> omega) | (refine (?_ : _ ≤ 9223372036854775807); simp [rowsLen] <;> omega) | (refine (?_ : _ = rowsLen _); simp [rowsLen] <;> omega) | refine eqv_to _ (app_row rfl) (eqv_to _ app_len ?_) | refine eqv_to _ (app_first rfl) (eqv_to 1 rfl ?_) | refine idx_sl (at_map (by assumption)) (by omega) ?_ | refine idx_ms _ (by first | rfl | assumption) (by first | assumption | omega) ?_ | fail)
      all_goals
        change vcFunD _ _ _ _ _
        refine callD_eq rfl (by repeat' (first | trivial | refine And.intro ?_ ?_ | (show 0 + _ ≤ List.length _; simp))) (show ALeL _ [encN n, encI _, encI _] from And.intro ALe.refl (And.intro (by first | exact ALe.refl | exact le_ints (by simp)) (And.intro (by first | exact ALe.refl | exact le_ints (by simp)) trivial))) (c_opt n _ _) rfl ?_
        repeat' (first | (exact (rfl : allOne _ = true)) | exact trivial | (refine (?_ : _ ≠ _); omega) | (refine (?_ : srcLen _ = rowsLen _); rfl) | (intro h; exact absurd h (Nat.succ_ne_zero _)) | (intro h; exact absurd h (Nat.not_lt_zero _))  | (exact (Nat.le_of_ble_eq_true rfl)) | (exact (by kernel_rfl : drawOk _ _ = true)) | refine ops_cons ?_ | refine ops_nil ?_ | refine opsD_cons ?_ | refine opsD_nil ?_ | refine any_step ?_ | refine any_nil ?_ | refine code_seq ?_ | refine code_region ?_ | refine code_cond ?_ | refine code_block ?_ | refine code_scope ?_ | refine code_skip ?_ | refine code_ret ?_ | refine code_exit ?_ | (refine And.intro ?_ ?_) | (intro h; first | exact Bool.noConfusion h | (simp at h; done) | simp at h | skip) | refine eqv_len_map ?_ | refine eqv_zero ?_ | refine eqv_wrap (by omega) (by omega) ?_ | refine eqv_to _ (set_map rfl rfl) ?_ | refine ⟨_, _, (by first | rfl | assumption), at_map (by assumption), ?_⟩ | refine ⟨_, at_map (by assumption), (by decide), ?_⟩ | refine ⟨_, at_map (by assumption), ?_⟩ | (refine (?_ : _ ≤ 140737488355328); simp [rowsLen] <;> omega) | (refine (?_ : _ ≤ 9223372036854775807); simp [rowsLen] <;> omega) | (refine (?_ : _ = rowsLen _); simp [rowsLen] <;> omega) | refine eqv_to _ (app_row rfl) (eqv_to _ app_len ?_) | refine eqv_to _ (app_first rfl) (eqv_to 1 rfl ?_) | refine idx_sl (at_map (by assumption)) (by omega) ?_ | refine idx_ms _ (by first | rfl | assumption) (by first | assumption | omega) ?_ | fail)
        change vcFunD _ _ _ _ _
        refine callD_eq rfl (by repeat' (first | trivial | refine And.intro ?_ ?_ | (show 0 + _ ≤ List.length _; simp))) (show ALeL _ [encN n, encI _, encI _] from And.intro ALe.refl (And.intro (by first | exact ALe.refl | exact le_ints (by simp)) (And.intro (by first | exact ALe.refl | exact le_ints (by simp)) trivial))) (c_ropt n _ _) rfl ?_
        repeat' (first | (exact (rfl : allOne _ = true)) | exact trivial | (refine (?_ : _ ≠ _); omega) | (refine (?_ : srcLen _ = rowsLen _); rfl) | (intro h; exact absurd h (Nat.succ_ne_zero _)) | (intro h; exact absurd h (Nat.not_lt_zero _))  | (exact (Nat.le_of_ble_eq_true rfl)) | (exact (by kernel_rfl : drawOk _ _ = true)) | refine ops_cons ?_ | refine ops_nil ?_ | refine opsD_cons ?_ | refine opsD_nil ?_ | refine any_step ?_ | refine any_nil ?_ | refine code_seq ?_ | refine code_region ?_ | refine code_cond ?_ | refine code_block ?_ | refine code_scope ?_ | refine code_skip ?_ | refine code_ret ?_ | refine code_exit ?_ | (refine And.intro ?_ ?_) | (intro h; first | exact Bool.noConfusion h | (simp at h; done) | simp at h | skip) | refine eqv_len_map ?_ | refine eqv_zero ?_ | refine eqv_wrap (by omega) (by omega) ?_ | refine eqv_to _ (set_map rfl rfl) ?_ | refine ⟨_, _, (by first | rfl | assumption), at_map (by assumption), ?_⟩ | refine ⟨_, at_map (by assumption), (by decide), ?_⟩ | refine ⟨_, at_map (by assumption), ?_⟩ | (refine (?_ : _ ≤ 140737488355328); simp [rowsLen] <;> omega) | (refine (?_ : _ ≤ 9223372036854775807); simp [rowsLen] <;> omega) | (refine (?_ : _ = rowsLen _); simp [rowsLen] <;> omega) | refine eqv_to _ (app_row rfl) (eqv_to _ app_len ?_) | refine eqv_to _ (app_first rfl) (eqv_to 1 rfl ?_) | refine idx_sl (at_map (by assumption)) (by omega) ?_ | refine idx_ms _ (by first | rfl | assumption) (by first | assumption | omega) ?_ | fail)
      all_goals
        change vcFunD _ _ _ _ _
        refine callD_eq rfl (by repeat' (first | trivial | refine And.intro ?_ ?_ | (show 0 + _ ≤ List.length _; simp))) (show ALeL _ [encN n, encBs _] from And.intro ALe.refl (And.intro (by first | exact ALe.refl | exact le_bools (by simp)) trivial)) (c_blk n _) rfl ?_
        repeat' (first | (exact (rfl : allOne _ = true)) | exact trivial | (refine (?_ : _ ≠ _); omega) | (refine (?_ : srcLen _ = rowsLen _); rfl) | (intro h; exact absurd h (Nat.succ_ne_zero _)) | (intro h; exact absurd h (Nat.not_lt_zero _))  | (exact (Nat.le_of_ble_eq_true rfl)) | (exact (by kernel_rfl : drawOk _ _ = true)) | refine ops_cons ?_ | refine ops_nil ?_ | refine opsD_cons ?_ | refine opsD_nil ?_ | refine any_step ?_ | refine any_nil ?_ | refine code_seq ?_ | refine code_region ?_ | refine code_cond ?_ | refine code_block ?_ | refine code_scope ?_ | refine code_skip ?_ | refine code_ret ?_ | refine code_exit ?_ | (refine And.intro ?_ ?_) | (intro h; first | exact Bool.noConfusion h | (simp at h; done) | simp at h | skip) | refine eqv_len_map ?_ | refine eqv_zero ?_ | refine eqv_wrap (by omega) (by omega) ?_ | refine eqv_to _ (set_map rfl rfl) ?_ | refine ⟨_, _, (by first | rfl | assumption), at_map (by assumption), ?_⟩ | refine ⟨_, at_map (by assumption), (by decide), ?_⟩ | refine ⟨_, at_map (by assumption), ?_⟩ | (refine (?_ : _ ≤ 140737488355328); simp [rowsLen] <;> omega) | (refine (?_ : _ ≤ 9223372036854775807); simp [rowsLen] <;> omega) | (refine (?_ : _ = rowsLen _); simp [rowsLen] <;> omega) | refine eqv_to _ (app_row rfl) (eqv_to _ app_len ?_) | refine eqv_to _ (app_first rfl) (eqv_to 1 rfl ?_) | refine idx_sl (at_map (by assumption)) (by omega) ?_ | refine idx_ms _ (by first | rfl | assumption) (by first | assumption | omega) ?_ | fail)
        change vcFunD _ _ _ _ _
        refine callD_eq rfl (by repeat' (first | trivial | refine And.intro ?_ ?_ | (show 0 + _ ≤ List.length _; simp))) (show ALeL _ [encN n, encBs _] from And.intro ALe.refl (And.intro (by first | exact ALe.refl | exact le_bools (by simp)) trivial)) (c_rblk n _) rfl ?_
        repeat' (first | (exact (rfl : allOne _ = true)) | exact trivial | (refine (?_ : _ ≠ _); omega) | (refine (?_ : srcLen _ = rowsLen _); rfl) | (intro h; exact absurd h (Nat.succ_ne_zero _)) | (intro h; exact absurd h (Nat.not_lt_zero _))  | (exact (Nat.le_of_ble_eq_true rfl)) | (exact (by kernel_rfl : drawOk _ _ = true)) | refine ops_cons ?_ | refine ops_nil ?_ | refine opsD_cons ?_ | refine opsD_nil ?_ | refine any_step ?_ | refine any_nil ?_ | refine code_seq ?_ | refine code_region ?_ | refine code_cond ?_ | refine code_block ?_ | refine code_scope ?_ | refine code_skip ?_ | refine code_ret ?_ | refine code_exit ?_ | (refine And.intro ?_ ?_) | (intro h; first | exact Bool.noConfusion h | (simp at h; done) | simp at h | skip) | refine eqv_len_map ?_ | refine eqv_zero ?_ | refine eqv_wrap (by omega) (by omega) ?_ | refine eqv_to _ (set_map rfl rfl) ?_ | refine ⟨_, _, (by first | rfl | assumption), at_map (by assumption), ?_⟩ | refine ⟨_, at_map (by assumption), (by decide), ?_⟩ | refine ⟨_, at_map (by assumption), ?_⟩ | (refine (?_ : _ ≤ 140737488355328); simp [rowsLen] <;> omega) | (refine (?_ : _ ≤ 9223372036854775807); simp [rowsLen] <;> omega) | (refine (?_ : _ = rowsLen _); simp [rowsLen] <;> omega) | refine eqv_to _ (app_row rfl) (eqv_to _ app_len ?_) | refine eqv_to _ (app_first rfl) (eqv_to 1 rfl ?_) | refine idx_sl (at_map (by assumption)) (by omega) ?_ | refine idx_ms _ (by first | rfl | assumption) (by first | assumption | omega) ?_ | fail)
      all_goals
        change vcFunD _ _ _ _ _; refine callD_eq rfl (by repeat' (first | trivial | refine And.intro ?_ ?_)) ALeL.refl awake_ok rfl ?_
        repeat' (first | (exact (rfl : allOne _ = true)) | exact trivial | (refine (?_ : _ ≠ _); omega) | (refine (?_ : srcLen _ = rowsLen _); rfl) | (intro h; exact absurd h (Nat.succ_ne_zero _)) | (intro h; exact absurd h (Nat.not_lt_zero _))  | (exact (Nat.le_of_ble_eq_true rfl)) | (exact (by kernel_rfl : drawOk _ _ = true)) | refine ops_cons ?_ | refine ops_nil ?_ | refine opsD_cons ?_ | refine opsD_nil ?_ | refine any_step ?_ | refine any_nil ?_ | refine code_seq ?_ | refine code_region ?_ | refine code_cond ?_ | refine code_block ?_ | refine code_scope ?_ | refine code_skip ?_ | refine code_ret ?_ | refine code_exit ?_ | (refine And.intro ?_ ?_) | (intro h; first | exact Bool.noConfusion h | (simp at h; done) | simp at h | skip) | refine eqv_len_map ?_ | refine eqv_zero ?_ | refine eqv_wrap (by omega) (by omega) ?_ | refine eqv_to _ (set_map rfl rfl) ?_ | refine ⟨_, _, (by first | rfl | assumption), at_map (by assumption), ?_⟩ | refine ⟨_, at_map (by assumption), (by decide), ?_⟩ | refine ⟨_, at_map (by assumption), ?_⟩ | (refine (?_ : _ ≤ 140737488355328); simp [rowsLen] <;> omega) | (refine (?_ : _ ≤ 9223372036854775807); simp [rowsLen] <;> omega) | (refine (?_ : _ = rowsLen _); simp [rowsLen] <;> omega) | refine eqv_to _ (app_row rfl) (eqv_to _ app_len ?_) | refine eqv_to _ (app_first rfl) (eqv_to 1 rfl ?_) | refine idx_sl (at_map (by assumption)) (by omega) ?_ | refine idx_ms _ (by first | rfl | assumption) (by first | assumption | omega) ?_ | fail)
        all_goals try (change retOk _ _ _ _; refine ret_pure rfl trivial ?_)
        rfl
  · change vcFun _ _ _ _ _; refine call_eq rfl (by repeat' (first | trivial | refine And.intro ?_ ?_)) ALeL.refl awake_ok rfl ?_
    repeat' (first | (exact (rfl : allOne _ = true)) | exact trivial | (refine (?_ : _ ≠ _); omega) | (refine (?_ : srcLen _ = rowsLen _); rfl) | (intro h; exact absurd h (Nat.succ_ne_zero _)) | (intro h; exact absurd h (Nat.not_lt_zero _))  | (exact (Nat.le_of_ble_eq_true rfl)) | (exact (by kernel_rfl : drawOk _ _ = true)) | refine ops_cons ?_ | refine ops_nil ?_ | refine opsD_cons ?_ | refine opsD_nil ?_ | refine any_step ?_ | refine any_nil ?_ | refine code_seq ?_ | refine code_region ?_ | refine code_cond ?_ | refine code_block ?_ | refine code_scope ?_ | refine code_skip ?_ | refine code_ret ?_ | refine code_exit ?_ | (refine And.intro ?_ ?_) | (intro h; first | exact Bool.noConfusion h | (simp at h; done) | simp at h | skip) | refine eqv_len_map ?_ | refine eqv_zero ?_ | refine eqv_wrap (by omega) (by omega) ?_ | refine eqv_to _ (set_map rfl rfl) ?_ | refine ⟨_, _, (by first | rfl | assumption), at_map (by assumption), ?_⟩ | refine ⟨_, at_map (by assumption), (by decide), ?_⟩ | refine ⟨_, at_map (by assumption), ?_⟩ | (refine (?_ : _ ≤ 140737488355328); simp [rowsLen] <;> omega) | (refine (?_ : _ ≤ 9223372036854775807); simp [rowsLen] <;> omega) | (refine (?_ : _ = rowsLen _); simp [rowsLen] <;> omega) | refine eqv_to _ (app_row rfl) (eqv_to _ app_len ?_) | refine eqv_to _ (app_first rfl) (eqv_to 1 rfl ?_) | refine idx_sl (at_map (by assumption)) (by omega) ?_ | refine idx_ms _ (by first | rfl | assumption) (by first | assumption | omega) ?_ | fail)
    all_goals try (change retOk _ _ _ _; refine ret_pure rfl trivial ?_)
    rfl
end Go.Proofs.Ytlhakdmenohdnaa.Cw

/-
  The reference's least cost: pushing along chains of arcs; cuts; potentials. The plain law.
-/
namespace Go.Proofs.Ytlhakdmenohdnaa.Cw
open Go.Cw Go.Proofs
set_option linter.unusedVariables false

/-- Both arcs of every edge. -/
def allArcs (m : Nat) : List Arc := (List.range m).flatMap fun i => [(i, false), (i, true)]

theorem mem_allArcs {m : Nat} {a : Arc} : a ∈ allArcs m ↔ a.1 < m := by
  simp only [allArcs, List.mem_flatMap, List.mem_range, List.mem_cons, List.not_mem_nil, or_false]
  constructor
  · rintro ⟨i, hi, rfl | rfl⟩ <;> exact hi
  · intro h
    obtain ⟨i, d⟩ := a
    exact ⟨i, h, by cases d <;> simp⟩

theorem allArcs_len (m : Nat) : (allArcs m).length = 2 * m := by
  induction m with
  | zero => rfl
  | succ m ih => simp only [allArcs, List.range_succ, List.flatMap_append, List.length_append] at ih ⊢; simp [ih]; omega

theorem gok_ex {n : Net} (hv : validR n = 0) : ∃ N A, GOk n N A ∧ n.nodes = ↑N ∧ 1 ≤ N := by
  obtain ⟨v1, v2, v3, v4⟩ := valid_spec hv
  have hN : n.nodes = ↑n.nodes.toNat := by omega
  refine ⟨n.nodes.toNat, (List.range n.nodes.toNat).map fun u => (allArcs n.es.length).filter fun a => decide (arcFr n.es a = u ∧ arcTo n.es a ≠ u), ?_, hN, by omega⟩
  have hg : ∀ u, ((List.range n.nodes.toNat).map fun u => (allArcs n.es.length).filter fun a => decide (arcFr n.es a = u ∧ arcTo n.es a ≠ u)).getD u [] = if u < n.nodes.toNat then (allArcs n.es.length).filter fun a => decide (arcFr n.es a = u ∧ arcTo n.es a ≠ u) else [] := fun u => by
    simp only [List.getD_eq_getElem?_getD, List.getElem?_map]
    by_cases h : u < n.nodes.toNat
    · rw [List.getElem?_range h, if_pos h]; rfl
    · rw [List.getElem?_eq_none (by simp; omega), if_neg h]; rfl
  refine ⟨hN, by omega, v3, v4, by simp, fun u => ?_, fun u a ha => ?_, fun a ha hne => ?_⟩
  · rw [hg]
    split
    · have := List.length_filter_le (fun a => decide (arcFr n.es a = u ∧ arcTo n.es a ≠ u)) (allArcs n.es.length)
      rw [allArcs_len] at this
      exact this
    · simp
  · rw [hg] at ha
    split at ha
    · simp only [List.mem_filter, mem_allArcs, decide_eq_true_eq] at ha
      exact ha
    · cases ha
  · rw [hg]
    have hlt : arcFr n.es a < n.nodes.toNat := by
      obtain ⟨i, d⟩ := a
      have he : n.es[i]? = some (n.es[i]'ha) := List.getElem?_eq_getElem ha
      have := v4 _ (List.getElem_mem ha)
      simp [soundB] at this
      simp only [arcFr, he]
      split <;> omega
    rw [if_pos hlt]
    simp only [List.mem_filter, mem_allArcs, decide_eq_true_eq]
    exact ⟨ha, trivial, fun e => hne e.symm⟩

/-- Arcs one behind the other, from a node back to another. -/
def Chain (es : List Edge) : Nat → List Arc → Nat → Prop
  | v, [], r => v = r
  | v, a :: P, r => arcTo es a = v ∧ Chain es (arcFr es a) P r

def pushAll (f : List Int) (P : List Arc) (k : Int) : List Int := P.foldl (fun f a => pushF f a k) f
def sumCo (es : List Edge) : List Arc → Int
  | [] => 0
  | a :: P => arcCo es a + sumCo es P

theorem costZ_set : ∀ (es : List Edge) (f : List Int) (i : Nat) (e : Edge) (y : Int), es[i]? = some e → i < f.length → costZ (es.zip (f.set i y)) = costZ (es.zip f) + e.co * (y - f.getD i 0)
  | [], _, _, _, _, h, _ => by simp at h
  | _ :: _, [], _, _, _, _, h => by simp at h
  | e0 :: es, x :: f, 0, e, y, h, _ => by
    simp only [List.getElem?_cons_zero, Option.some.injEq] at h
    subst h
    simp only [List.set_cons_zero, List.zip_cons_cons, costZ, List.getD_cons_zero, Int.mul_sub]; omega
  | e0 :: es, x :: f, i + 1, e, y, h, hl => by
    have := costZ_set es f i e y (by simpa using h) (by simpa using hl)
    simp only [List.set_cons_succ, List.zip_cons_cons, costZ, List.getD_cons_succ, this]
    omega

section
variable {n : Net} {N : Nat} {A : List (List Arc)} {f : List Int}

theorem push_cost (hf : FOk n f) {a : Arc} (ha : a.1 < n.es.length) (k : Int) : costZ (n.es.zip (pushF f a k)) = costZ (n.es.zip f) + arcCo n.es a * k := by
  have he : n.es[a.1]? = some (n.es[a.1]'ha) := List.getElem?_eq_getElem ha
  unfold pushF
  rw [costZ_set n.es f a.1 _ _ he (by rw [hf.len]; exact ha)]
  simp only [arcCo, he]
  cases a.2
  · simp only [Bool.false_eq_true, if_false]; congr 1; congr 1; omega
  · simp only [if_true, Int.neg_mul]
    rw [show f.getD a.1 0 - k - f.getD a.1 0 = -k from by omega, Int.mul_neg]

theorem pushAll_len (P : List Arc) (k : Int) : ∀ f : List Int, (pushAll f P k).length = f.length := by
  induction P with
  | nil => intro f; rfl
  | cons a P ih => intro f; show (pushAll (pushF f a k) P k).length = _; rw [ih, push_len]

/-- Other edges keep their flow. -/
theorem pushAll_get {P : List Arc} {k : Int} {i : Nat} : ∀ {f : List Int}, (∀ a ∈ P, a.1 ≠ i) → (pushAll f P k).getD i 0 = f.getD i 0 := by
  induction P with
  | nil => intro f _; rfl
  | cons a P ih =>
    intro f h
    show (pushAll (pushF f a k) P k).getD i 0 = _
    rw [ih fun b hb => h b (by simp [hb])]
    unfold pushF
    rw [getD_set, if_neg (fun e => h a (by simp) e.1)]

theorem pushAll_ok (g : GOk n N A) {k : Int} (h0 : 0 ≤ k) : ∀ {P : List Arc} {f : List Int}, FOk n f → (∀ a ∈ P, a.1 < n.es.length ∧ k ≤ arcRoom n.es f a) → (P.map (·.1)).Nodup →
    FOk n (pushAll f P k) ∧ costZ (n.es.zip (pushAll f P k)) = costZ (n.es.zip f) + sumCo n.es P * k ∧ ∀ v r, Chain n.es v P r → ∀ y : Nat, exc (n.es.zip (pushAll f P k)) y = exc (n.es.zip f) y + (if v = y then k else 0) - (if r = y then k else 0)
  | [], f, hf, _, _ => ⟨hf, by simp [pushAll, sumCo], fun v r hc y => by
      have : v = r := hc
      subst this
      simp only [pushAll, List.foldl_nil]; omega⟩
  | a :: P, f, hf, hP, hd => by
    obtain ⟨ha, hk⟩ := hP a (by simp)
    simp only [List.map_cons, List.nodup_cons, List.mem_map, not_exists, not_and] at hd
    have hf1 := push_ok g hf ha h0 hk
    obtain ⟨q1, q2, q3⟩ := pushAll_ok g h0 (P := P) hf1 (fun b hb => ⟨(hP b (by simp [hb])).1, by
      rw [push_room g hf ha, if_neg (hd.1 b hb)]; exact (hP b (by simp [hb])).2⟩) hd.2
    refine ⟨q1, ?_, fun v r hc y => ?_⟩
    · show costZ (n.es.zip (pushAll (pushF f a k) P k)) = _
      rw [q2, push_cost hf ha]
      simp only [sumCo, Int.add_mul]; omega
    · show exc (n.es.zip (pushAll (pushF f a k) P k)) y = _
      rw [q3 _ r hc.2 y, push_exc g hf ha]
      rw [hc.1]; omega

/-- The nodes that a cut says nothing flows away from. -/
theorem cut_stuck (g : GOk n N A) (hf : FOk n f) {S : List Bool} (h0 : S.length = N) (h1 : ∀ v : Nat, v < N → 0 < exc (n.es.zip f) v → S.getD v false = true) (h2 : ∀ v : Nat, v < N → exc (n.es.zip f) v < 0 → S.getD v false = false)
    (h3 : ∀ a : Arc, a.1 < n.es.length → S.getD (arcFr n.es a) false = true → 0 < arcRoom n.es f a → S.getD (arcTo n.es a) false = true) (h4 : ∃ v : Nat, v < N ∧ exc (n.es.zip f) v ≠ 0) : Stuck n N f S := by
  refine ⟨h0, h1, ?_, h2, h3⟩
  obtain ⟨v, hv, hx⟩ := h4
  by_cases hp : ∃ v : Nat, v < N ∧ 0 < exc (n.es.zip f) v
  · exact hp
  · exfalso
    have hz := wz_eq (fun _ => 1) (g.ends f)
    have hw : ∀ z : EF, wz (fun _ => 1) z = 0 := fun z => by induction z with
      | nil => rfl
      | cons x z ih => obtain ⟨e, y⟩ := x; simp only [wz, ih]; omega
    rw [hw, sumI_congr (h := fun v => exc (n.es.zip f) v) fun v _ => Int.one_mul _] at hz
    exact hx (sumI_all0 (fun v hv => by
      by_cases k : 0 < exc (n.es.zip f) v
      · exact absurd ⟨v, hv, k⟩ hp
      · omega) hz v hv)

/-- A potential along which nothing is cheaper: the flow is the cheapest one. -/
theorem feas_le {q : List Int} (hv : validR n = 0) (hb : balB n f = true) (hf : FOk n f) (hp : Feas n f (fun v => q.getD v 0)) {x : List Int} (hx : balB n x = true) : costZ (n.es.zip f) ≤ costZ (n.es.zip x) := by
  obtain ⟨_, h2, _, _⟩ := balP_spec hb
  obtain ⟨_, k2, k3, _⟩ := balP_spec hx
  have := cost_le q h2 k2 k3 (fun y hy => by
    obtain ⟨i, h1, h2⟩ := hf.zip hy
    obtain ⟨e, z⟩ := y
    simp only at h1 h2
    subst h2
    obtain ⟨_, k1, k2, k3, k4⟩ := hf.edge h1
    have hi := (List.getElem?_eq_some_iff.1 h1).1
    have p1 := hp (i, false) hi
    have p2 := hp (i, true) hi
    rw [k1] at p1
    rw [k2] at p2
    simp only [arcTo, arcFr, arcCo, h1, Bool.false_eq_true, if_false, if_true] at p1 p2
    refine decide_eq_true ?_
    simp only [redC]
    constructor <;> intro _ <;> omega)
  rw [bal_wz hb, bal_wz hx] at this
  omega

/-- The arcs that take more. -/
def arcsR (n : Net) (f : List Int) : List Arc := (allArcs n.es.length).filter fun a => decide (0 < arcRoom n.es f a)
theorem mem_arcsR {a : Arc} : a ∈ arcsR n f ↔ a.1 < n.es.length ∧ 0 < arcRoom n.es f a := by
  simp [arcsR, mem_allArcs]
theorem arcsR_len : (arcsR n f).length ≤ 2 * n.es.length := by
  have := List.length_filter_le (fun a => decide (0 < arcRoom n.es f a)) (allArcs n.es.length)
  rw [allArcs_len] at this
  exact this

/-- The arcs of the first edges. -/
def arcsTo (n : Net) (f : List Int) (i : Nat) : List Arc := (allArcs i).filter fun a => decide (0 < arcRoom n.es f a)
theorem arcsTo_succ (i : Nat) : arcsTo n f (i + 1) = arcsTo n f i ++ ((if 0 < arcRoom n.es f (i, false) then [(i, false)] else []) ++ (if 0 < arcRoom n.es f (i, true) then [(i, true)] else [])) := by
  simp only [arcsTo, allArcs, List.range_succ, List.flatMap_append, List.filter_append, List.flatMap_cons, List.flatMap_nil, List.append_nil]
  congr 1
  by_cases h1 : 0 < arcRoom n.es f (i, false) <;> by_cases h2 : 0 < arcRoom n.es f (i, true) <;> simp [h1, h2]
theorem arcsTo_len (i : Nat) : (arcsTo n f i).length ≤ 2 * i := by
  have := List.length_filter_le (fun a => decide (0 < arcRoom n.es f a)) (allArcs i)
  rw [allArcs_len] at this
  exact this
end

/-- An arc as the reference writes it. -/
def encR (es : List Edge) (f : List Int) (a : Arc) : List PV := [ei a.1, ei (arcFr es a), ei (arcTo es a), ei (arcRoom es f a), ei (arcCo es a), ei (if a.2 then -1 else 1)]
end Go.Proofs.Ytlhakdmenohdnaa.Cw

/-
  Contracts of the reference's functions: arcs, push.
-/
namespace Go.Proofs.Ytlhakdmenohdnaa.Cw
open Go.Cw Go.Proofs
set_option linter.unusedVariables false
set_option maxRecDepth 100000
set_option maxHeartbeats 4000000

def slR (id : Nat) (es : List Edge) (f : List Int) (L : List Arc) : AV := match L with
  | [] => .pv (.val (.slice none 0 0))
  | a :: L => .ms id 6 0 (a :: L).length
def obR (es : List Edge) (f : List Int) (L : List Arc) : Option AObj := match L with
  | [] => none
  | a :: L => some ⟨68, 6, false, .p ((a :: L).map (encR es f))⟩
def encRs (es : List Edge) (f : List Int) (L : List Arc) : AV := .pv (.sl 6 (L.map (encR es f)))

theorem c_arcs {n : Net} {N : Nat} {A : List (List Arc)} {f : List Int} (g : GOk n N A) (hf : FOk n f) :
    ACall Try.prog 40 [encN n, .ms 0 1 0 n.es.length] [iO f] (fun r H' => r = slR 1 n.es f (arcsTo n f n.es.length) ∧ H' = [iO f, obR n.es f (arcsTo n f n.es.length)]) := by
  have hm := g.mlen
  have hfl := hf.len
  refine acall_of tok mixed 71 rfl (fn := Try.f40) (c := Try.f40.body.getD .skip) (by kernel_rfl) (by kernel_rfl) (by kernel_rfl) rfl 1 rfl ?_
  repeat' (first | (exact (rfl : allOne _ = true)) | exact trivial | (refine (?_ : _ ≠ _); omega) | (refine (?_ : srcLen _ = rowsLen _); rfl) | (intro h; exact absurd h (Nat.succ_ne_zero _)) | (intro h; exact absurd h (Nat.not_lt_zero _))  | (exact (Nat.le_of_ble_eq_true rfl)) | (exact (by kernel_rfl : drawOk _ _ = true)) | refine ops_cons ?_ | refine ops_nil ?_ | refine opsD_cons ?_ | refine opsD_nil ?_ | refine any_step ?_ | refine any_nil ?_ | refine code_seq ?_ | refine code_region ?_ | refine code_cond ?_ | refine code_block ?_ | refine code_scope ?_ | refine code_skip ?_ | refine code_ret ?_ | refine code_exit ?_ | (refine And.intro ?_ ?_) | (intro h; first | exact Bool.noConfusion h | (simp at h; done) | simp at h | skip) | refine eqv_len_map ?_ | refine eqv_zero ?_ | refine eqv_wrap (by omega) (by omega) ?_ | refine eqv_to _ (set_map rfl rfl) ?_ | refine ⟨_, _, (by first | rfl | assumption), at_map (by assumption), ?_⟩ | refine ⟨_, at_map (by assumption), (by decide), ?_⟩ | refine ⟨_, at_map (by assumption), ?_⟩ | (refine (?_ : _ ≤ 140737488355328); simp [rowsLen] <;> omega) | (refine (?_ : _ ≤ 9223372036854775807); simp [rowsLen] <;> omega) | (refine (?_ : _ = rowsLen _); simp [rowsLen] <;> omega) | refine eqv_to _ (app_row rfl) (eqv_to _ app_len ?_) | refine idx_sl (at_map (by assumption)) (by omega) ?_ | refine idx_ms _ (by first | rfl | assumption) (by first | assumption | omega) ?_ | fail)
  refine code_loop (fun i : Nat => ⟨[(6, vint .i64 i), (5, slR 2 n.es f (arcsTo n f i)), (2, .ptr 1 2 0 0), (1, .ms 0 1 0 n.es.length)], [iO f, some ⟨24, 2, false, .box [.pv (ei n.nodes), .pv (.sl 5 (n.es.map encE))]⟩, obR n.es f (arcsTo n f i)]⟩)
    (fun i => i ≤ n.es.length) (fun i => n.es.length - i) ⟨0, Nat.zero_le _, ⟨[0, 1, 2], rfl, rfl, And.intro rfl (And.intro rfl trivial), rfl, rfl, rfl, rfl, trivial⟩⟩ ?_
  intro i hi
  have hal := arcsTo_len (n := n) (f := f) i
  have hs := arcsTo_succ (n := n) (f := f) i
  generalize hL : arcsTo n f i = L at *
  rcases L with _ | ⟨a0, L⟩
  all_goals
    simp only [List.length_cons, List.length_nil] at hal
    repeat' (first | (exact (rfl : allOne _ = true)) | exact trivial | (refine (?_ : _ ≠ _); omega) | (refine (?_ : srcLen _ = rowsLen _); rfl) | (intro h; exact absurd h (Nat.succ_ne_zero _)) | (intro h; exact absurd h (Nat.not_lt_zero _))  | (exact (Nat.le_of_ble_eq_true rfl)) | (exact (by kernel_rfl : drawOk _ _ = true)) | refine ops_cons ?_ | refine ops_nil ?_ | refine opsD_cons ?_ | refine opsD_nil ?_ | refine any_step ?_ | refine any_nil ?_ | refine code_seq ?_ | refine code_region ?_ | refine code_cond ?_ | refine code_block ?_ | refine code_scope ?_ | refine code_skip ?_ | refine code_ret ?_ | refine code_exit ?_ | (refine And.intro ?_ ?_) | (intro h; first | exact Bool.noConfusion h | (simp at h; done) | simp at h | skip) | refine eqv_len_map ?_ | refine eqv_zero ?_ | refine eqv_wrap (by omega) (by omega) ?_ | refine eqv_to _ (set_map rfl rfl) ?_ | refine ⟨_, _, (by first | rfl | assumption), at_map (by assumption), ?_⟩ | refine ⟨_, at_map (by assumption), (by decide), ?_⟩ | refine ⟨_, at_map (by assumption), ?_⟩ | (refine (?_ : _ ≤ 140737488355328); simp [rowsLen] <;> omega) | (refine (?_ : _ ≤ 9223372036854775807); simp [rowsLen] <;> omega) | (refine (?_ : _ = rowsLen _); simp [rowsLen] <;> omega) | refine eqv_to _ (app_row rfl) (eqv_to _ app_len ?_) | refine idx_sl (at_map (by assumption)) (by omega) ?_ | refine idx_ms _ (by first | rfl | assumption) (by first | assumption | omega) ?_ | fail)
  all_goals try
    have hil : i < n.es.length := by omega
    obtain ⟨e, he, h1, h2, h3, h4, h5, h6, h7, h8, h9⟩ := g.edge hil
    obtain ⟨hfi, k1, k2, k3, k4⟩ := hf.edge he
    have hE1 : encR n.es f (i, false) = [ei i, ei e.fr, ei e.to, ei (e.mo - f.getD i 0), ei e.co, ei 1] := by
      simp only [encR, k1]
      simp only [arcFr, arcTo, arcCo, he, Bool.false_eq_true, if_false]
      rw [show ((e.fr.toNat : Nat) : Int) = e.fr by omega, show ((e.to.toNat : Nat) : Int) = e.to by omega]
    have hE2 : encR n.es f (i, true) = [ei i, ei e.to, ei e.fr, ei (f.getD i 0 - e.ls), ei (0 - e.co), ei (-1)] := by
      simp only [encR, k2]
      simp only [arcFr, arcTo, arcCo, he, if_true, show -e.co = 0 - e.co by omega]
      rw [show ((e.fr.toNat : Nat) : Int) = e.fr by omega, show ((e.to.toNat : Nat) : Int) = e.to by omega]
    rw [k1, k2] at hs
    have hfr := hf.flow i hil
    generalize hfv : f.getD i 0 = fv at *
    repeat' (first | (exact (rfl : allOne _ = true)) | exact trivial | (refine (?_ : _ ≠ _); omega) | (refine (?_ : srcLen _ = rowsLen _); rfl) | (intro h; exact absurd h (Nat.succ_ne_zero _)) | (intro h; exact absurd h (Nat.not_lt_zero _))  | (exact (Nat.le_of_ble_eq_true rfl)) | (exact (by kernel_rfl : drawOk _ _ = true)) | refine ops_cons ?_ | refine ops_nil ?_ | refine opsD_cons ?_ | refine opsD_nil ?_ | refine any_step ?_ | refine any_nil ?_ | refine code_seq ?_ | refine code_region ?_ | refine code_cond ?_ | refine code_block ?_ | refine code_scope ?_ | refine code_skip ?_ | refine code_ret ?_ | refine code_exit ?_ | (refine And.intro ?_ ?_) | (intro h; first | exact Bool.noConfusion h | (simp at h; done) | simp at h | skip) | refine eqv_len_map ?_ | refine eqv_zero ?_ | refine eqv_wrap (by omega) (by omega) ?_ | refine eqv_to _ (set_map rfl rfl) ?_ | refine ⟨_, _, (by first | rfl | assumption), at_map (by assumption), ?_⟩ | refine ⟨_, at_map (by assumption), (by decide), ?_⟩ | refine ⟨_, at_map (by assumption), ?_⟩ | (refine (?_ : _ ≤ 140737488355328); simp [rowsLen] <;> omega) | (refine (?_ : _ ≤ 9223372036854775807); simp [rowsLen] <;> omega) | (refine (?_ : _ = rowsLen _); simp [rowsLen] <;> omega) | refine eqv_to _ (app_row rfl) (eqv_to _ app_len ?_) | refine idx_sl (at_map (by assumption)) (by omega) ?_ | refine idx_ms _ (by first | rfl | assumption) (by first | assumption | omega) ?_ | fail)
  all_goals try
    first
      | refine eqv_to (.p (([(i, false)] : List Arc).map (encR n.es f))) (by rw [List.map_cons, hE1]; rfl) (eqv_to 1 rfl ?_)
      | refine eqv_to (.p (([(i, true)] : List Arc).map (encR n.es f))) (by rw [List.map_cons, hE2]; rfl) (eqv_to 1 rfl ?_)
      | refine eqv_to _ (app_row (y := (i, false)) hE1) (eqv_to _ app_len ?_)
      | refine eqv_to _ (app_row (y := (i, true)) hE2) (eqv_to _ app_len ?_)
    repeat' (first | (exact (rfl : allOne _ = true)) | exact trivial | (refine (?_ : _ ≠ _); omega) | (refine (?_ : srcLen _ = rowsLen _); rfl) | (intro h; exact absurd h (Nat.succ_ne_zero _)) | (intro h; exact absurd h (Nat.not_lt_zero _))  | (exact (Nat.le_of_ble_eq_true rfl)) | (exact (by kernel_rfl : drawOk _ _ = true)) | refine ops_cons ?_ | refine ops_nil ?_ | refine opsD_cons ?_ | refine opsD_nil ?_ | refine any_step ?_ | refine any_nil ?_ | refine code_seq ?_ | refine code_region ?_ | refine code_cond ?_ | refine code_block ?_ | refine code_scope ?_ | refine code_skip ?_ | refine code_ret ?_ | refine code_exit ?_ | (refine And.intro ?_ ?_) | (intro h; first | exact Bool.noConfusion h | (simp at h; done) | simp at h | skip) | refine eqv_len_map ?_ | refine eqv_zero ?_ | refine eqv_wrap (by omega) (by omega) ?_ | refine eqv_to _ (set_map rfl rfl) ?_ | refine ⟨_, _, (by first | rfl | assumption), at_map (by assumption), ?_⟩ | refine ⟨_, at_map (by assumption), (by decide), ?_⟩ | refine ⟨_, at_map (by assumption), ?_⟩ | (refine (?_ : _ ≤ 140737488355328); simp [rowsLen] <;> omega) | (refine (?_ : _ ≤ 9223372036854775807); simp [rowsLen] <;> omega) | (refine (?_ : _ = rowsLen _); simp [rowsLen] <;> omega) | refine eqv_to _ (app_row rfl) (eqv_to _ app_len ?_) | refine idx_sl (at_map (by assumption)) (by omega) ?_ | refine idx_ms _ (by first | rfl | assumption) (by first | assumption | omega) ?_ | fail)
  all_goals try
    first
      | refine eqv_to (.p (([(i, false)] : List Arc).map (encR n.es f))) (by rw [List.map_cons, hE1]; rfl) (eqv_to 1 rfl ?_)
      | refine eqv_to (.p (([(i, true)] : List Arc).map (encR n.es f))) (by rw [List.map_cons, hE2]; rfl) (eqv_to 1 rfl ?_)
      | refine eqv_to _ (app_row (y := (i, false)) hE1) (eqv_to _ app_len ?_)
      | refine eqv_to _ (app_row (y := (i, true)) hE2) (eqv_to _ app_len ?_)
    repeat' (first | (exact (rfl : allOne _ = true)) | exact trivial | (refine (?_ : _ ≠ _); omega) | (refine (?_ : srcLen _ = rowsLen _); rfl) | (intro h; exact absurd h (Nat.succ_ne_zero _)) | (intro h; exact absurd h (Nat.not_lt_zero _))  | (exact (Nat.le_of_ble_eq_true rfl)) | (exact (by kernel_rfl : drawOk _ _ = true)) | refine ops_cons ?_ | refine ops_nil ?_ | refine opsD_cons ?_ | refine opsD_nil ?_ | refine any_step ?_ | refine any_nil ?_ | refine code_seq ?_ | refine code_region ?_ | refine code_cond ?_ | refine code_block ?_ | refine code_scope ?_ | refine code_skip ?_ | refine code_ret ?_ | refine code_exit ?_ | (refine And.intro ?_ ?_) | (intro h; first | exact Bool.noConfusion h | (simp at h; done) | simp at h | skip) | refine eqv_len_map ?_ | refine eqv_zero ?_ | refine eqv_wrap (by omega) (by omega) ?_ | refine eqv_to _ (set_map rfl rfl) ?_ | refine ⟨_, _, (by first | rfl | assumption), at_map (by assumption), ?_⟩ | refine ⟨_, at_map (by assumption), (by decide), ?_⟩ | refine ⟨_, at_map (by assumption), ?_⟩ | (refine (?_ : _ ≤ 140737488355328); simp [rowsLen] <;> omega) | (refine (?_ : _ ≤ 9223372036854775807); simp [rowsLen] <;> omega) | (refine (?_ : _ = rowsLen _); simp [rowsLen] <;> omega) | refine eqv_to _ (app_row rfl) (eqv_to _ app_len ?_) | refine idx_sl (at_map (by assumption)) (by omega) ?_ | refine idx_ms _ (by first | rfl | assumption) (by first | assumption | omega) ?_ | fail)
  all_goals try
    refine ⟨i + 1, by omega, by omega, ?_⟩
    dsimp only
    rw [hs]
    first
      | rw [if_pos (by omega), if_pos (by omega)]
      | rw [if_pos (by omega), if_neg (by omega)]
      | rw [if_neg (by omega), if_pos (by omega)]
      | rw [if_neg (by omega), if_neg (by omega)]
    try simp only [List.append_nil, List.nil_append, ← List.append_assoc]
    first
      | exact ⟨[0, 1, 2], rfl, rfl, And.intro rfl (And.intro rfl trivial), rfl, rfl, rfl, rfl, trivial⟩
      | exact ⟨[0, 1, 2], rfl, rfl, And.intro rfl (And.intro rfl (And.intro rfl trivial)), rfl, rfl, rfl, rfl, trivial⟩
      | exact ⟨[0, 1, 4], rfl, rfl, And.intro rfl (And.intro rfl (And.intro rfl trivial)), rfl, rfl, rfl, rfl, trivial⟩
      | exact ⟨[0, 1, 5], rfl, rfl, And.intro rfl (And.intro rfl (And.intro rfl trivial)), rfl, rfl, rfl, rfl, trivial⟩
      | exact ⟨[0, 1, 6], rfl, rfl, And.intro rfl (And.intro rfl (And.intro rfl trivial)), rfl, rfl, rfl, rfl, trivial⟩
      | exact ⟨[0, 1, 7], rfl, rfl, And.intro rfl (And.intro rfl (And.intro rfl trivial)), rfl, rfl, rfl, rfl, trivial⟩
  all_goals try
    obtain rfl : i = n.es.length := by omega
    rw [hL]
    first
      | exact ret_obj [0, 2] [iO f, obR n.es f []] rfl rfl (And.intro rfl trivial) (r' := slR 1 n.es f []) rfl ⟨rfl, rfl⟩
      | exact ret_obj [0, 2] [iO f, obR n.es f (a0 :: L)] rfl rfl (And.intro rfl (And.intro rfl trivial)) (r' := slR 1 n.es f (a0 :: L)) rfl ⟨rfl, rfl⟩

/-- What a path takes. -/
def minRoom (es : List Edge) (f : List Int) : List Arc → Int → Int
  | [], k => k
  | a :: P, k => minRoom es f P (min k (arcRoom es f a))

theorem minRoom_le (es : List Edge) (f : List Int) : ∀ (P : List Arc) (k : Int), minRoom es f P k ≤ k ∧ ∀ a ∈ P, minRoom es f P k ≤ arcRoom es f a
  | [], k => ⟨Int.le_refl _, fun a ha => absurd ha List.not_mem_nil⟩
  | b :: P, k => by
    obtain ⟨h1, h2⟩ := minRoom_le es f P (min k (arcRoom es f b))
    simp only [minRoom]
    refine ⟨by omega, fun a ha => ?_⟩
    rcases List.mem_cons.1 ha with rfl | ha
    · omega
    · exact h2 a ha

theorem minRoom_pos (es : List Edge) (f : List Int) : ∀ (P : List Arc) (k : Int), 0 < k → (∀ a ∈ P, 0 < arcRoom es f a) → 0 < minRoom es f P k
  | [], k, h, _ => h
  | b :: P, k, h, hp => by
    have := hp b (by simp)
    exact minRoom_pos es f P _ (by omega) fun a ha => hp a (by simp [ha])

theorem minRoom_nonneg (es : List Edge) (f : List Int) : ∀ (P : List Arc) (k : Int), 0 ≤ k → (∀ a ∈ P, 0 ≤ arcRoom es f a) → 0 ≤ minRoom es f P k
  | [], k, h, _ => h
  | b :: P, k, h, hp => by
    have := hp b (by simp)
    exact minRoom_nonneg es f P _ (by omega) fun a ha => hp a (by simp [ha])

theorem nodup_take {P : List Arc} {i : Nat} {a b : Arc} (hd : (P.map (·.1)).Nodup) (ha : P[i]? = some a) (hb : b ∈ P.take i) : b.1 ≠ a.1 := by
  obtain ⟨j, hj, rfl⟩ := List.getElem_of_mem hb
  obtain ⟨hi, rfl⟩ := List.getElem?_eq_some_iff.1 ha
  rw [List.length_take] at hj
  rw [List.Nodup, List.pairwise_iff_getElem] at hd
  have := hd j i (by simp; omega) (by simpa using hi) (by omega)
  simpa using this

theorem minRoom_take (es : List Edge) (f : List Int) : ∀ (P : List Arc) (k : Int) (i : Nat) (a : Arc), P[i]? = some a → minRoom es f (P.take (i + 1)) k = min (minRoom es f (P.take i) k) (arcRoom es f a)
  | [], _, _, _, h => by simp at h
  | b :: P, k, 0, a, h => by simp at h; subst h; simp [minRoom]
  | b :: P, k, i + 1, a, h => by
    simp only [List.take_succ_cons, minRoom]
    exact minRoom_take es f P _ i a (by simpa using h)

theorem pushAll_take {P : List Arc} {f : List Int} {k : Int} {i : Nat} {a : Arc} (h : P[i]? = some a) : pushAll f (P.take (i + 1)) k = pushF (pushAll f (P.take i) k) a k := by
  obtain ⟨hi, rfl⟩ := List.getElem?_eq_some_iff.1 h
  simp only [pushAll, List.take_succ_eq_append_getElem hi, List.foldl_append, List.foldl_cons, List.foldl_nil]

theorem c_push {n : Net} {N : Nat} {A : List (List Arc)} {f : List Int} (g : GOk n N A) (hf : FOk n f) (P : List Arc) (m : Int) (hP : ∀ a ∈ P, a.1 < n.es.length) (hd : (P.map (·.1)).Nodup) (hl : P.length ≤ 16384) (h0 : 0 ≤ m) (h1 : m ≤ 1000000000) :
    ACall Try.prog 35 [.ms 0 1 0 n.es.length, encRs n.es f P, vint .i64 m] [iO f] (fun r H' => r = vint .i64 (minRoom n.es f P m) ∧ H' = [iO (pushAll f P (minRoom n.es f P m))]) := by
  have hfl := hf.len
  refine acall_of tok mixed 46 rfl (fn := Try.f35) (c := Try.f35.body.getD .skip) (by kernel_rfl) (by kernel_rfl) (by kernel_rfl) rfl 1 rfl ?_
  repeat' (first | (exact (rfl : allOne _ = true)) | exact trivial | (refine (?_ : _ ≠ _); omega) | (refine (?_ : srcLen _ = rowsLen _); rfl) | (intro h; exact absurd h (Nat.succ_ne_zero _)) | (intro h; exact absurd h (Nat.not_lt_zero _))  | (exact (Nat.le_of_ble_eq_true rfl)) | (exact (by kernel_rfl : drawOk _ _ = true)) | refine ops_cons ?_ | refine ops_nil ?_ | refine opsD_cons ?_ | refine opsD_nil ?_ | refine any_step ?_ | refine any_nil ?_ | refine code_seq ?_ | refine code_region ?_ | refine code_cond ?_ | refine code_block ?_ | refine code_scope ?_ | refine code_skip ?_ | refine code_ret ?_ | refine code_exit ?_ | (refine And.intro ?_ ?_) | (intro h; first | exact Bool.noConfusion h | (simp at h; done) | simp at h | skip) | refine eqv_len_map ?_ | refine eqv_zero ?_ | refine eqv_wrap (by omega) (by omega) ?_ | refine eqv_to _ (set_map rfl rfl) ?_ | refine ⟨_, _, (by first | rfl | assumption), at_map (by assumption), ?_⟩ | refine ⟨_, at_map (by assumption), (by decide), ?_⟩ | refine ⟨_, at_map (by assumption), ?_⟩ | (refine (?_ : _ ≤ 140737488355328); simp [rowsLen] <;> omega) | (refine (?_ : _ ≤ 9223372036854775807); simp [rowsLen] <;> omega) | (refine (?_ : _ = rowsLen _); simp [rowsLen] <;> omega) | refine eqv_to _ (app_row rfl) (eqv_to _ app_len ?_) | refine idx_sl (at_map (by assumption)) (by omega) ?_ | refine idx_ms _ (by first | rfl | assumption) (by first | assumption | omega) ?_ | fail)
  refine code_loop (fun i : Nat => ⟨[(7, vint .i64 i), (2, vint .i64 (minRoom n.es f (P.take i) m)), (1, encRs n.es f P), (0, .ms 0 1 0 n.es.length)], [iO f]⟩)
    (fun i => i ≤ P.length) (fun i => P.length - i) ⟨0, Nat.zero_le _, ⟨[0], rfl, rfl, And.intro rfl trivial, rfl, rfl, rfl, rfl, trivial⟩⟩ ?_
  intro i hi
  repeat' (first | (exact (rfl : allOne _ = true)) | exact trivial | (refine (?_ : _ ≠ _); omega) | (refine (?_ : srcLen _ = rowsLen _); rfl) | (intro h; exact absurd h (Nat.succ_ne_zero _)) | (intro h; exact absurd h (Nat.not_lt_zero _))  | (exact (Nat.le_of_ble_eq_true rfl)) | (exact (by kernel_rfl : drawOk _ _ = true)) | refine ops_cons ?_ | refine ops_nil ?_ | refine opsD_cons ?_ | refine opsD_nil ?_ | refine any_step ?_ | refine any_nil ?_ | refine code_seq ?_ | refine code_region ?_ | refine code_cond ?_ | refine code_block ?_ | refine code_scope ?_ | refine code_skip ?_ | refine code_ret ?_ | refine code_exit ?_ | (refine And.intro ?_ ?_) | (intro h; first | exact Bool.noConfusion h | (simp at h; done) | simp at h | skip) | refine eqv_len_map ?_ | refine eqv_zero ?_ | refine eqv_wrap (by omega) (by omega) ?_ | refine eqv_to _ (set_map rfl rfl) ?_ | refine ⟨_, _, (by first | rfl | assumption), at_map (by assumption), ?_⟩ | refine ⟨_, at_map (by assumption), (by decide), ?_⟩ | refine ⟨_, at_map (by assumption), ?_⟩ | (refine (?_ : _ ≤ 140737488355328); simp [rowsLen] <;> omega) | (refine (?_ : _ ≤ 9223372036854775807); simp [rowsLen] <;> omega) | (refine (?_ : _ = rowsLen _); simp [rowsLen] <;> omega) | refine eqv_to _ (app_row rfl) (eqv_to _ app_len ?_) | refine idx_sl (at_map (by assumption)) (by omega) ?_ | refine idx_ms _ (by first | rfl | assumption) (by first | assumption | omega) ?_ | fail)
  case' refine_1 =>
    obtain ⟨a, ha⟩ := getE h
    repeat' (first | (exact (rfl : allOne _ = true)) | exact trivial | (refine (?_ : _ ≠ _); omega) | (refine (?_ : srcLen _ = rowsLen _); rfl) | (intro h; exact absurd h (Nat.succ_ne_zero _)) | (intro h; exact absurd h (Nat.not_lt_zero _))  | (exact (Nat.le_of_ble_eq_true rfl)) | (exact (by kernel_rfl : drawOk _ _ = true)) | refine ops_cons ?_ | refine ops_nil ?_ | refine opsD_cons ?_ | refine opsD_nil ?_ | refine any_step ?_ | refine any_nil ?_ | refine code_seq ?_ | refine code_region ?_ | refine code_cond ?_ | refine code_block ?_ | refine code_scope ?_ | refine code_skip ?_ | refine code_ret ?_ | refine code_exit ?_ | (refine And.intro ?_ ?_) | (intro h; first | exact Bool.noConfusion h | (simp at h; done) | simp at h | skip) | refine eqv_len_map ?_ | refine eqv_zero ?_ | refine eqv_wrap (by omega) (by omega) ?_ | refine eqv_to _ (set_map rfl rfl) ?_ | refine ⟨_, _, (by first | rfl | assumption), at_map (by assumption), ?_⟩ | refine ⟨_, at_map (by assumption), (by decide), ?_⟩ | refine ⟨_, at_map (by assumption), ?_⟩ | (refine (?_ : _ ≤ 140737488355328); simp [rowsLen] <;> omega) | (refine (?_ : _ ≤ 9223372036854775807); simp [rowsLen] <;> omega) | (refine (?_ : _ = rowsLen _); simp [rowsLen] <;> omega) | refine eqv_to _ (app_row rfl) (eqv_to _ app_len ?_) | refine idx_sl (at_map (by assumption)) (by omega) ?_ | refine idx_ms _ (by first | rfl | assumption) (by first | assumption | omega) ?_ | fail)
    refine ⟨i + 1, by omega, by omega, ⟨[0], rfl, rfl, And.intro rfl trivial, rfl, slot_eq rfl (congrArg (vint .i64) ?_), rfl, rfl, trivial⟩⟩
    rw [minRoom_take _ _ _ _ _ _ ha]
    show (if _ < _ then _ else _) = _
    split <;> omega
  case' refine_2 =>
    obtain rfl : i = P.length := by omega
    obtain ⟨m1, m2⟩ := minRoom_le n.es f P m
    have m3 : -1000000000 ≤ minRoom n.es f P m := by
      have := minRoom_nonneg n.es f P m h0 fun a ha => (hf.room a (hP a ha)).1
      omega
    rw [List.take_of_length_le (Nat.le_refl P.length)]
    dsimp only
    generalize minRoom n.es f P m = k at *
    refine code_loop (fun i : Nat => ⟨[(8, vint .i64 i), (2, vint .i64 k), (1, encRs n.es f P), (0, .ms 0 1 0 n.es.length)], [iO (pushAll f (P.take i) k)]⟩)
      (fun i => i ≤ P.length) (fun i => P.length - i) ⟨0, Nat.zero_le _, ⟨[0], rfl, rfl, And.intro rfl trivial, rfl, rfl, rfl, rfl, trivial⟩⟩ ?_
    intro i hi
    repeat' (first | (exact (rfl : allOne _ = true)) | exact trivial | (refine (?_ : _ ≠ _); omega) | (refine (?_ : srcLen _ = rowsLen _); rfl) | (intro h; exact absurd h (Nat.succ_ne_zero _)) | (intro h; exact absurd h (Nat.not_lt_zero _))  | (exact (Nat.le_of_ble_eq_true rfl)) | (exact (by kernel_rfl : drawOk _ _ = true)) | refine ops_cons ?_ | refine ops_nil ?_ | refine opsD_cons ?_ | refine opsD_nil ?_ | refine any_step ?_ | refine any_nil ?_ | refine code_seq ?_ | refine code_region ?_ | refine code_cond ?_ | refine code_block ?_ | refine code_scope ?_ | refine code_skip ?_ | refine code_ret ?_ | refine code_exit ?_ | (refine And.intro ?_ ?_) | (intro h; first | exact Bool.noConfusion h | (simp at h; done) | simp at h | skip) | refine eqv_len_map ?_ | refine eqv_zero ?_ | refine eqv_wrap (by omega) (by omega) ?_ | refine eqv_to _ (set_map rfl rfl) ?_ | refine ⟨_, _, (by first | rfl | assumption), at_map (by assumption), ?_⟩ | refine ⟨_, at_map (by assumption), (by decide), ?_⟩ | refine ⟨_, at_map (by assumption), ?_⟩ | (refine (?_ : _ ≤ 140737488355328); simp [rowsLen] <;> omega) | (refine (?_ : _ ≤ 9223372036854775807); simp [rowsLen] <;> omega) | (refine (?_ : _ = rowsLen _); simp [rowsLen] <;> omega) | refine eqv_to _ (app_row rfl) (eqv_to _ app_len ?_) | refine idx_sl (at_map (by assumption)) (by omega) ?_ | refine idx_ms _ (by first | rfl | assumption) (by first | assumption | omega) ?_ | fail)
    case' refine_1 =>
      obtain ⟨a, ha⟩ := getE h
      have hal := hP a (List.mem_of_getElem? ha)
      have hpl := pushAll_len (P.take i) k f
      have hgv : (pushAll f (P.take i) k).getD a.1 0 = f.getD a.1 0 := pushAll_get fun b hb e => nodup_take hd ha hb e
      have hgx := of_getD (l := pushAll f (P.take i) k) (i := a.1) 0 (by omega)
      rw [hgv] at hgx
      have hst := pushAll_take (f := f) (k := k) ha
      have hfr := hf.flow a.1 hal
      have hrow := at_map (f := encR n.es f) ha
      generalize pushAll f (P.take i) k = f1 at *
      obtain ⟨j, d⟩ := a
      dsimp only at hal hgv hgx hst hfr hrow
      generalize f.getD j 0 = fv at *
      clear ha
      cases d
      all_goals
        simp only [encR, Bool.false_eq_true, if_false, if_true] at hrow
        simp only [pushF, Bool.false_eq_true, if_false, if_true, hgv] at hst
        refine idx_sl hrow rfl ?_
        repeat' (first | (exact (rfl : allOne _ = true)) | exact trivial | (refine (?_ : _ ≠ _); omega) | (refine (?_ : srcLen _ = rowsLen _); rfl) | (intro h; exact absurd h (Nat.succ_ne_zero _)) | (intro h; exact absurd h (Nat.not_lt_zero _))  | (exact (Nat.le_of_ble_eq_true rfl)) | (exact (by kernel_rfl : drawOk _ _ = true)) | refine ops_cons ?_ | refine ops_nil ?_ | refine opsD_cons ?_ | refine opsD_nil ?_ | refine any_step ?_ | refine any_nil ?_ | refine code_seq ?_ | refine code_region ?_ | refine code_cond ?_ | refine code_block ?_ | refine code_scope ?_ | refine code_skip ?_ | refine code_ret ?_ | refine code_exit ?_ | (refine And.intro ?_ ?_) | (intro h; first | exact Bool.noConfusion h | (simp at h; done) | simp at h | skip) | refine eqv_len_map ?_ | refine eqv_zero ?_ | refine eqv_wrap (by omega) (by omega) ?_ | refine eqv_to _ (set_map rfl rfl) ?_ | refine ⟨_, _, (by first | rfl | assumption), at_map (by assumption), ?_⟩ | refine ⟨_, at_map (by assumption), (by decide), ?_⟩ | refine ⟨_, at_map (by assumption), ?_⟩ | (refine (?_ : _ ≤ 140737488355328); simp [rowsLen] <;> omega) | (refine (?_ : _ ≤ 9223372036854775807); simp [rowsLen] <;> omega) | (refine (?_ : _ = rowsLen _); simp [rowsLen] <;> omega) | refine eqv_to _ (app_row rfl) (eqv_to _ app_len ?_) | refine idx_sl (at_map (by assumption)) (by omega) ?_ | refine idx_ms _ (by first | rfl | assumption) (by first | assumption | omega) ?_ | fail)
        refine idx_sl hrow rfl ?_
        repeat' (first | (exact (rfl : allOne _ = true)) | exact trivial | (refine (?_ : _ ≠ _); omega) | (refine (?_ : srcLen _ = rowsLen _); rfl) | (intro h; exact absurd h (Nat.succ_ne_zero _)) | (intro h; exact absurd h (Nat.not_lt_zero _))  | (exact (Nat.le_of_ble_eq_true rfl)) | (exact (by kernel_rfl : drawOk _ _ = true)) | refine ops_cons ?_ | refine ops_nil ?_ | refine opsD_cons ?_ | refine opsD_nil ?_ | refine any_step ?_ | refine any_nil ?_ | refine code_seq ?_ | refine code_region ?_ | refine code_cond ?_ | refine code_block ?_ | refine code_scope ?_ | refine code_skip ?_ | refine code_ret ?_ | refine code_exit ?_ | (refine And.intro ?_ ?_) | (intro h; first | exact Bool.noConfusion h | (simp at h; done) | simp at h | skip) | refine eqv_len_map ?_ | refine eqv_zero ?_ | refine eqv_wrap (by omega) (by omega) ?_ | refine eqv_to _ (set_map rfl rfl) ?_ | refine ⟨_, _, (by first | rfl | assumption), at_map (by assumption), ?_⟩ | refine ⟨_, at_map (by assumption), (by decide), ?_⟩ | refine ⟨_, at_map (by assumption), ?_⟩ | (refine (?_ : _ ≤ 140737488355328); simp [rowsLen] <;> omega) | (refine (?_ : _ ≤ 9223372036854775807); simp [rowsLen] <;> omega) | (refine (?_ : _ = rowsLen _); simp [rowsLen] <;> omega) | refine eqv_to _ (app_row rfl) (eqv_to _ app_len ?_) | refine idx_sl (at_map (by assumption)) (by omega) ?_ | refine idx_ms _ (by first | rfl | assumption) (by first | assumption | omega) ?_ | fail)
        refine ⟨i + 1, by omega, by omega, ⟨[0], rfl, rfl, And.intro ?_ trivial, rfl, rfl, rfl, rfl, trivial⟩⟩
        rw [hst]
        first
          | (rw [show fv + k = fv + 1 * k by omega]; rfl)
          | (rw [show fv - k = fv + -1 * k by omega]; rfl)
    case' refine_2 =>
      obtain rfl : i = P.length := by omega
      refine ret_obj [0] [iO (pushAll f P k)] rfl rfl (And.intro ?_ trivial) (r' := vint .i64 k) rfl ⟨rfl, rfl⟩
      rw [List.take_of_length_le (Nat.le_refl P.length)]
      rfl
end Go.Proofs.Ytlhakdmenohdnaa.Cw

/-
  The reference's way: the plain law.
-/
namespace Go.Proofs.Ytlhakdmenohdnaa.Cw
open Go.Cw Go.Proofs
set_option linter.unusedVariables false

/-- A list that is filled from the front. -/
def fillL {α : Type} (g : List α) (d : α) (i : Nat) : List α := g.take i ++ List.replicate (g.length - i) d

theorem fill_step {α : Type} {g : List α} {d y : α} {i : Nat} (h : g[i]? = some y) : (fillL g d i).set i y = fillL g d (i + 1) := by
  have hi := (List.getElem?_eq_some_iff.1 h).1
  apply List.ext_getElem?
  intro j
  simp only [fillL, List.getElem?_set, List.length_append, List.length_take, List.length_replicate, List.getElem?_append, List.getElem?_replicate, List.getElem?_take]
  rcases Nat.lt_trichotomy i j with h1 | h1 | h1
  · have e1 : ¬ i = j := by omega
    have e2 : ¬ j < min (i + 1) g.length := by omega
    have e3 : ¬ j < min i g.length := by omega
    simp only [e1, e2, e3, if_false]
    by_cases hj : j < g.length
    · have e4 : j - min (i + 1) g.length < g.length - (i + 1) := by omega
      have e5 : j - min i g.length < g.length - i := by omega
      simp [e4, e5]
    · have e4 : ¬ j - min (i + 1) g.length < g.length - (i + 1) := by omega
      have e5 : ¬ j - min i g.length < g.length - i := by omega
      simp [e4, e5]
  · subst h1
    have e2 : i < min (i + 1) g.length := by omega
    have e3 : i < min i g.length + (g.length - i) := by omega
    rw [if_pos e2, if_pos (Nat.lt_succ_self i), if_pos rfl, if_pos e3, h]
  · have e1 : ¬ i = j := by omega
    have e2 : j < min (i + 1) g.length := by omega
    have e3 : j < min i g.length := by omega
    have e4 : j < i + 1 := by omega
    rw [if_pos e2, if_pos e4, if_neg e1, if_pos e3, if_pos h1]

theorem fill_get {α : Type} {g : List α} {d : α} {i : Nat} (h : i < g.length) : (fillL g d i)[i]? = some d := by
  simp only [fillL]
  rw [List.getElem?_append_right (by simp; omega), List.getElem?_replicate]
  simp; omega

theorem fill_len {α : Type} {g : List α} {d : α} {i : Nat} (h : i ≤ g.length) : (fillL g d i).length = g.length := by simp [fillL]; omega
theorem fill_zero {α : Type} {g : List α} {d : α} : fillL g d 0 = List.replicate g.length d := by simp [fillL]
theorem fill_end {α : Type} {g : List α} {d : α} : fillL g d g.length = g := by simp [fillL]

def cntN : List Int → Nat
  | [] => 0
  | x :: l => (if x < 0 then 1 else 0) + cntN l

theorem cntN_set : ∀ (l : List Int) (i : Nat) (y : Int), i < l.length → cntN (l.set i y) + (if l.getD i 0 < 0 then 1 else 0) = cntN l + (if y < 0 then 1 else 0)
  | [], i, y, h => by simp at h
  | x :: l, 0, y, h => by simp only [List.set_cons_zero, cntN, List.getD_cons_zero]; omega
  | x :: l, i + 1, y, h => by
    have := cntN_set l i y (by simpa using h)
    simp only [List.set_cons_succ, cntN, List.getD_cons_succ]; omega

structure WInv (es : List Edge) (N : Nat) (L : List Arc) (x b : List Int) : Prop where
  len : b.length = N
  rng : ∀ v, v < N → -1 ≤ b.getD v 0 ∧ b.getD v 0 ≤ L.length
  src : ∀ v, v < N → (b.getD v 0 = L.length ↔ 0 < x.getD v 0)
  back : ∀ v, v < N → 0 ≤ b.getD v 0 → b.getD v 0 ≠ L.length → ∃ a, L[(b.getD v 0).toNat]? = some a ∧ arcTo es a = v ∧ 0 ≤ b.getD (arcFr es a) 0
  rank : ∃ rk : Nat → Nat, ∀ v, v < N → 0 ≤ b.getD v 0 → ∀ a, L[(b.getD v 0).toNat]? = some a → rk (arcFr es a) < rk v

section
variable {es : List Edge} {N : Nat} {L : List Arc} {x b : List Int}

theorem WInv.start (hx : x.length = N) : WInv es N L x (x.map fun y => if 0 < y then (L.length : Int) else -1) := by
  have hg : ∀ v, v < N → (x.map fun y => if 0 < y then (L.length : Int) else -1).getD v 0 = if 0 < x.getD v 0 then (L.length : Int) else -1 := fun v hv => by
    rw [List.getD_eq_getElem?_getD, List.getElem?_map, of_getD 0 (by omega)]; rfl
  refine ⟨by simp [hx], fun v hv => ?_, fun v hv => ?_, fun v hv h1 h2 => ?_, ⟨fun _ => 0, fun v hv h1 a ha => ?_⟩⟩
  · rw [hg v hv]; split <;> omega
  · rw [hg v hv]; split <;> omega
  · rw [hg v hv] at h1 h2; split at h1 <;> omega
  · rw [hg v hv] at h1 ha
    split at ha
    · rw [Int.toNat_natCast, List.getElem?_eq_none (Nat.le_refl _)] at ha; cases ha
    · rename_i hn; rw [if_neg hn] at h1; omega

theorem WInv.label (h : WInv es N L x b) {i : Nat} {a : Arc} (ha : L[i]? = some a) (h1 : arcFr es a < N) (h2 : arcTo es a < N) (h3 : 0 ≤ b.getD (arcFr es a) 0) (h4 : b.getD (arcTo es a) 0 < 0) :
    WInv es N L x (b.set (arcTo es a) i) ∧ cntN (b.set (arcTo es a) i) + 1 = cntN b := by
  have hi := (List.getElem?_eq_some_iff.1 ha).1
  have hg : ∀ v, (b.set (arcTo es a) (i : Int)).getD v 0 = if arcTo es a = v then (i : Int) else b.getD v 0 := fun v => by
    rw [getD_set, h.len]; simp only [h2, and_true]
  have hne : ∀ v, 0 ≤ b.getD v 0 → ¬ arcTo es a = v := fun v hv e => by rw [e] at h4; omega
  have mono : ∀ v, 0 ≤ b.getD v 0 → 0 ≤ (b.set (arcTo es a) (i : Int)).getD v 0 := fun v hv => by rw [hg, if_neg (hne v hv)]; exact hv
  obtain ⟨rk, hrk⟩ := h.rank
  refine ⟨⟨by simp [h.len], fun v hv => ?_, fun v hv => ?_, fun v hv k1 k2 => ?_, ⟨fun v => if arcTo es a = v then rk (arcFr es a) + 1 else rk v, fun v hv k1 a' ha' => ?_⟩⟩, ?_⟩
  · rw [hg]; have := h.rng v hv; split <;> omega
  · rw [hg]
    have := h.src v hv
    split
    · rename_i e
      subst e
      constructor
      · intro k; omega
      · intro k; have := this.2 k; omega
    · exact this
  · rw [hg] at k1 k2 ⊢
    split at k1
    · rename_i e
      rw [if_pos e]
      exact ⟨a, by rw [Int.toNat_natCast]; exact ha, e, mono _ h3⟩
    · rename_i e
      rw [if_neg e] at k2 ⊢
      obtain ⟨a', q1, q2, q3⟩ := h.back v hv k1 k2
      exact ⟨a', q1, q2, mono _ q3⟩
  · rw [hg] at k1 ha'
    have same : ¬ arcTo es a = arcFr es a := hne _ h3
    split at ha'
    · rename_i e
      rw [Int.toNat_natCast, ha] at ha'
      injection ha' with ha'
      subst ha'
      dsimp only
      rw [if_neg same, if_pos e]; omega
    · rename_i e
      rw [if_neg e] at k1
      have hk : b.getD v 0 ≠ L.length := fun k => by rw [k, Int.toNat_natCast, List.getElem?_eq_none (Nat.le_refl _)] at ha'; cases ha'
      obtain ⟨a2, q1, q2, q3⟩ := h.back v hv k1 hk
      rw [ha'] at q1
      injection q1 with q1
      subst q1
      dsimp only
      rw [if_neg (hne _ q3), if_neg e]
      exact hrk v hv k1 a' ha'
  · have := cntN_set b (arcTo es a) i (by rw [h.len]; exact h2)
    rw [if_pos h4, if_neg (by omega)] at this
    exact this

/-- The way back from a labelled node. -/
inductive WayR (es : List Edge) (L : List Arc) (b : List Int) : Nat → List Arc → Nat → Prop
  | root {v : Nat} (h : b.getD v 0 = L.length) : WayR es L b v [] v
  | step {v r : Nat} {a : Arc} {P : List Arc} (h0 : 0 ≤ b.getD v 0) (h1 : L[(b.getD v 0).toNat]? = some a) (h2 : arcTo es a = v) (hr : WayR es L b (arcFr es a) P r) : WayR es L b v (a :: P) r

theorem WInv.way (h : WInv es N L x b) (hN : ∀ a ∈ L, arcFr es a < N) {v : Nat} (hv : v < N) (hl : 0 ≤ b.getD v 0) : ∃ P r, WayR es L b v P r ∧ r < N ∧ 0 < x.getD r 0 := by
  obtain ⟨rk, hrk⟩ := h.rank
  suffices key : ∀ (k v : Nat), rk v < k → v < N → 0 ≤ b.getD v 0 → ∃ P r, WayR es L b v P r ∧ r < N ∧ 0 < x.getD r 0 from key _ v (Nat.lt_succ_self _) hv hl
  intro k
  induction k with
  | zero => intro v hk; exact absurd hk (Nat.not_lt_zero _)
  | succ k ih =>
    intro v hk hv hl
    by_cases e : b.getD v 0 = L.length
    · exact ⟨[], v, .root e, hv, (h.src v hv).1 e⟩
    · obtain ⟨a, q1, q2, q3⟩ := h.back v hv hl e
      have := hrk v hv hl a q1
      obtain ⟨P, r, p1, p2, p3⟩ := ih (arcFr es a) (by omega) (hN a (List.mem_of_getElem? q1)) q3
      exact ⟨a :: P, r, .step hl q1 q2 p1, p2, p3⟩

theorem WayR.view {v r : Nat} {P : List Arc} (h : WayR es L b v P r) : (P = [] ∧ v = r ∧ b.getD v 0 = L.length) ∨ ∃ a Q, ∃ k : Nat, P = a :: Q ∧ b.getD v 0 = k ∧ k < L.length ∧ L[k]? = some a ∧ arcTo es a = v ∧ WayR es L b (arcFr es a) Q r := by
  cases h with
  | root h => exact .inl ⟨rfl, rfl, h⟩
  | step h0 h1 h2 hr =>
    obtain ⟨k, hk⟩ := Int.eq_ofNat_of_zero_le h0
    rw [hk, Int.toNat_natCast] at h1
    exact .inr ⟨_, _, k, rfl, hk, (List.getElem?_eq_some_iff.1 h1).1, h1, h2, hr⟩

theorem WayR.chain {v r : Nat} {P : List Arc} (h : WayR es L b v P r) : Chain es v P r ∧ (∀ a ∈ P, a ∈ L) := by
  induction h with
  | root h => exact ⟨rfl, fun a ha => absurd ha List.not_mem_nil⟩
  | step h0 h1 h2 hr ih =>
    refine ⟨⟨h2, ih.1⟩, fun a' ha' => ?_⟩
    rcases List.mem_cons.1 ha' with rfl | ha'
    · exact List.mem_of_getElem? h1
    · exact ih.2 _ ha'

theorem WayR.uniq {v r r' : Nat} {P P' : List Arc} (h : WayR es L b v P r) (k : WayR es L b v P' r') : P = P' := by
  induction h generalizing P' with
  | root h =>
    cases k with
    | root => rfl
    | step h0 h1 _ _ => rw [h, Int.toNat_natCast, List.getElem?_eq_none (Nat.le_refl _)] at h1; cases h1
  | step h0 h1 h2 hr ih =>
    cases k with
    | root h => rw [h, Int.toNat_natCast, List.getElem?_eq_none (Nat.le_refl _)] at h1; cases h1
    | step k0 k1 k2 kr =>
      rw [h1] at k1
      injection k1 with k1
      subst k1
      rw [ih kr]

theorem WayR.sub {v r : Nat} {P : List Arc} (h : WayR es L b v P r) {a : Arc} (ha : a ∈ P) : ∃ Q, WayR es L b (arcTo es a) (a :: Q) r ∧ Q.length < P.length := by
  induction h with
  | root h => cases ha
  | step h0 h1 h2 hr ih =>
    rcases List.mem_cons.1 ha with rfl | ha
    · subst h2; exact ⟨_, .step h0 h1 rfl hr, Nat.lt_succ_self _⟩
    · obtain ⟨Q, q1, q2⟩ := ih ha
      exact ⟨Q, q1, Nat.lt_succ_of_lt q2⟩

/-- No edge is met again. -/
theorem WayR.nodup {v r : Nat} {P : List Arc} (h : WayR es L b v P r) : (P.map (·.1)).Nodup := by
  induction h with
  | root h => exact List.nodup_nil
  | @step v r a P h0 h1 h2 hr ih =>
    rw [List.map_cons, List.nodup_cons]
    refine ⟨fun hm => ?_, ih⟩
    obtain ⟨a', ha', e⟩ := List.mem_map.1 hm
    obtain ⟨Q, q1, q2⟩ := hr.sub ha'
    have top := WayR.step h0 h1 h2 hr
    by_cases e2 : a'.2 = a.2
    · have : a' = a := Prod.ext e e2
      subst this
      rw [h2] at q1
      have := top.uniq q1
      injection this with _ this
      subst this
      omega
    · have : a' = (a.1, !a.2) := Prod.ext e (by cases h5 : a.2 <;> cases h6 : a'.2 <;> simp_all)
      obtain ⟨t1, t2, _⟩ := arc_rev es a
      rw [← this] at t1 t2
      rw [t1] at q1
      have u1 := hr.uniq q1
      subst u1
      cases hr with
      | step g0 g1 g2 gr =>
        rw [t2, h2] at gr
        have := congrArg List.length (top.uniq gr)
        simp only [List.length_cons] at this
        omega
end
end Go.Proofs.Ytlhakdmenohdnaa.Cw

/-
  The contract of the reference's way.
-/
namespace Go.Proofs.Ytlhakdmenohdnaa.Cw
open Go.Cw Go.Proofs
set_option linter.unusedVariables false
set_option maxRecDepth 100000
set_option maxHeartbeats 4000000

/-- A cut: nothing more flows from where there is too much to where there is too little. -/
def CutS (n : Net) (N : Nat) (f x : List Int) : Prop := ∃ S : List Bool, S.length = N ∧ (∀ v : Nat, v < N → 0 < x.getD v 0 → S.getD v false = true) ∧ (∀ v : Nat, v < N → x.getD v 0 < 0 → S.getD v false = false) ∧
    ∀ a : Arc, a.1 < n.es.length → S.getD (arcFr n.es a) false = true → 0 < arcRoom n.es f a → S.getD (arcTo n.es a) false = true

def PathS (n : Net) (N : Nat) (f x : List Int) (P : List Arc) : Prop := P ≠ [] ∧ ∃ v r : Nat, v < N ∧ r < N ∧ x.getD v 0 < 0 ∧ 0 < x.getD r 0 ∧ Chain n.es v P r ∧ (P.map (·.1)).Nodup ∧ P.length ≤ 16384 ∧ ∀ a ∈ P, a.1 < n.es.length ∧ 0 < arcRoom n.es f a

theorem ghost_arcs {nn nh s id : Nat} {Γ : Slots} {H : Heap} {es : List Edge} {f : List Int} {L : List Arc} {S : ASt} (h : get Γ s = some (slR id es f L)) (ho : H[id]? = some (obR es f L))
    (k : ∀ H' : Heap, H'.length = H.length → (∀ i : Nat, i ≠ id → H'[i]? = H[i]?) → Ref nh ((s, encRs es f L) :: Γ) H' S) : Ghost nn nh Γ H S.sl S.hp := by
  rcases L with _ | ⟨a, L⟩
  · exact (Ghost.weak h (ALe.pv PLe.nil)).trans (Ghost.ref (k H rfl fun _ _ => rfl))
  · have ho : H[id]? = some (some ⟨68, 6, false, .p ((a :: L).map (encR es f))⟩) := ho
    have hc : conv H (.ms id 6 0 (a :: L).length) = some (encRs es f (a :: L)) := by
      show (match convC H 5 (.ms id 6 0 (a :: L).length) with | some p => some (AV.pv p) | none => none) = _
      have : convC H 5 (.ms id 6 0 (a :: L).length) = some (.sl 6 ((a :: L).map (encR es f))) := by
        simp only [convC, ho]
        rw [List.drop_zero, List.take_of_length_le (by simp)]
      rw [this]; rfl
    have hi : ids1 H (slR id es f (a :: L)) = [id] := by
      show idsC H 5 (.ms id 6 0 (a :: L).length) = _
      simp only [idsC, ho]; rfl
    have hk : ok1 H (.ms id 6 0 (a :: L).length) := by
      show okC H 5 (.ms id 6 0 (a :: L).length)
      simp only [okC, ho]
      simp
    have hf := Ghost.freeze (n := nn) (nh := nh) h hc hk
    rw [hi] at hf
    refine hf.trans (Ghost.ref (k _ (by rw [app_length]) fun i hne => ?_))
    simp only [frz, ho, app]
    rw [List.getElem?_set, if_neg (fun e => hne e.symm)]

theorem slR_len {es : List Edge} {f : List Int} {L : List Arc} : (L.map (encR es f)).length = L.length := List.length_map _

/-- The state of way: more slots and objects than these come ahead. -/
def SW (n : Net) (N : Nat) (f x : List Int) (L : List Arc) (more : Slots) (objs : Heap := []) : ASt :=
  ⟨more ++ [(7, encRs n.es f L), (3, .ptr 2 2 0 0), (2, .ms 1 1 0 N), (1, .ms 0 1 0 n.es.length)], iO f :: iO x :: some ⟨24, 2, false, .box [.pv (ei n.nodes), .pv (.sl 5 (n.es.map encE))]⟩ :: objs⟩

theorem c_way0 {n : Net} {N : Nat} {A : List (List Arc)} {f x : List Int} (g : GOk n N A) (hf : FOk n f) (hx : x.length = N) :
    ACall Try.prog 34 [encN n, .ms 0 1 0 n.es.length, .ms 1 1 0 N] [iO f, iO x] (fun r H' => ∃ r2, ALe r r2 ∧ ∃ P, r2 = encRs n.es f P ∧ H' = [iO f, iO x] ∧ ((P.length = 0 ∧ CutS n N f x) ∨ PathS n N f x P)) := by
  have hm := g.mlen
  have hN := g.len
  have hgn := g.nodes
  have hfl := hf.len
  refine acall_of tok mixed 118 rfl (fn := Try.f34) (c := Try.f34.body.getD .skip) (by kernel_rfl) (by kernel_rfl) (by kernel_rfl) rfl 2 rfl ?_
  repeat' (first | (exact (rfl : allOne _ = true)) | exact trivial | (refine (?_ : _ ≠ _); omega) | (refine (?_ : srcLen _ = rowsLen _); rfl) | (intro h; exact absurd h (Nat.succ_ne_zero _)) | (intro h; exact absurd h (Nat.not_lt_zero _))  | (exact (Nat.le_of_ble_eq_true rfl)) | (exact (by kernel_rfl : drawOk _ _ = true)) | refine ops_cons ?_ | refine ops_nil ?_ | refine opsD_cons ?_ | refine opsD_nil ?_ | refine any_step ?_ | refine any_nil ?_ | refine code_seq ?_ | refine code_cond ?_ | refine code_block ?_ | refine code_scope ?_ | refine code_skip ?_ | refine code_ret ?_ | refine code_exit ?_ | (refine And.intro ?_ ?_) | (intro h; first | exact Bool.noConfusion h | (simp at h; done) | simp at h | skip) | refine eqv_len_map ?_ | refine eqv_zero ?_ | refine eqv_wrap (by omega) (by omega) ?_ | refine eqv_to _ (set_map rfl rfl) ?_ | refine ⟨_, _, (by first | rfl | assumption), at_map (by assumption), ?_⟩ | refine ⟨_, at_map (by assumption), (by decide), ?_⟩ | refine ⟨_, at_map (by assumption), ?_⟩ | (refine (?_ : _ ≤ 140737488355328); simp [rowsLen] <;> omega) | (refine (?_ : _ ≤ 9223372036854775807); simp [rowsLen] <;> omega) | (refine (?_ : _ = rowsLen _); simp [rowsLen] <;> omega) | refine eqv_to _ (app_row rfl) (eqv_to _ app_len ?_) | refine eqv_to _ (app_first rfl) (eqv_to 1 rfl ?_) | refine idx_sl (at_map (by assumption)) (by omega) ?_ | refine idx_ms _ (by first | rfl | assumption) (by first | assumption | omega) ?_ | fail)
  refine code_region ?_
  repeat' (first | (exact (rfl : allOne _ = true)) | exact trivial | (refine (?_ : _ ≠ _); omega) | (refine (?_ : srcLen _ = rowsLen _); rfl) | (intro h; exact absurd h (Nat.succ_ne_zero _)) | (intro h; exact absurd h (Nat.not_lt_zero _))  | (exact (Nat.le_of_ble_eq_true rfl)) | (exact (by kernel_rfl : drawOk _ _ = true)) | refine ops_cons ?_ | refine ops_nil ?_ | refine opsD_cons ?_ | refine opsD_nil ?_ | refine any_step ?_ | refine any_nil ?_ | refine code_seq ?_ | refine code_cond ?_ | refine code_block ?_ | refine code_scope ?_ | refine code_skip ?_ | refine code_ret ?_ | refine code_exit ?_ | (refine And.intro ?_ ?_) | (intro h; first | exact Bool.noConfusion h | (simp at h; done) | simp at h | skip) | refine eqv_len_map ?_ | refine eqv_zero ?_ | refine eqv_wrap (by omega) (by omega) ?_ | refine eqv_to _ (set_map rfl rfl) ?_ | refine ⟨_, _, (by first | rfl | assumption), at_map (by assumption), ?_⟩ | refine ⟨_, at_map (by assumption), (by decide), ?_⟩ | refine ⟨_, at_map (by assumption), ?_⟩ | (refine (?_ : _ ≤ 140737488355328); simp [rowsLen] <;> omega) | (refine (?_ : _ ≤ 9223372036854775807); simp [rowsLen] <;> omega) | (refine (?_ : _ = rowsLen _); simp [rowsLen] <;> omega) | refine eqv_to _ (app_row rfl) (eqv_to _ app_len ?_) | refine eqv_to _ (app_first rfl) (eqv_to 1 rfl ?_) | refine idx_sl (at_map (by assumption)) (by omega) ?_ | refine idx_ms _ (by first | rfl | assumption) (by first | assumption | omega) ?_ | fail)
  refine code_region ?_
  repeat' (first | (exact (rfl : allOne _ = true)) | exact trivial | (refine (?_ : _ ≠ _); omega) | (refine (?_ : srcLen _ = rowsLen _); rfl) | (intro h; exact absurd h (Nat.succ_ne_zero _)) | (intro h; exact absurd h (Nat.not_lt_zero _))  | (exact (Nat.le_of_ble_eq_true rfl)) | (exact (by kernel_rfl : drawOk _ _ = true)) | refine ops_cons ?_ | refine ops_nil ?_ | refine opsD_cons ?_ | refine opsD_nil ?_ | refine any_step ?_ | refine any_nil ?_ | refine code_seq ?_ | refine code_cond ?_ | refine code_block ?_ | refine code_scope ?_ | refine code_skip ?_ | refine code_ret ?_ | refine code_exit ?_ | (refine And.intro ?_ ?_) | (intro h; first | exact Bool.noConfusion h | (simp at h; done) | simp at h | skip) | refine eqv_len_map ?_ | refine eqv_zero ?_ | refine eqv_wrap (by omega) (by omega) ?_ | refine eqv_to _ (set_map rfl rfl) ?_ | refine ⟨_, _, (by first | rfl | assumption), at_map (by assumption), ?_⟩ | refine ⟨_, at_map (by assumption), (by decide), ?_⟩ | refine ⟨_, at_map (by assumption), ?_⟩ | (refine (?_ : _ ≤ 140737488355328); simp [rowsLen] <;> omega) | (refine (?_ : _ ≤ 9223372036854775807); simp [rowsLen] <;> omega) | (refine (?_ : _ = rowsLen _); simp [rowsLen] <;> omega) | refine eqv_to _ (app_row rfl) (eqv_to _ app_len ?_) | refine eqv_to _ (app_first rfl) (eqv_to 1 rfl ?_) | refine idx_sl (at_map (by assumption)) (by omega) ?_ | refine idx_ms _ (by first | rfl | assumption) (by first | assumption | omega) ?_ | fail)
  refine call_obj [0] [iO f] [encN n, .ms 0 1 0 n.es.length] rfl ⟨rfl, trivial⟩ rfl (c_arcs g hf) ?_
  rintro r H' ⟨rfl, rfl⟩
  refine ⟨Nat.le_of_ble_eq_true rfl, ?_⟩
  have hmem : ∀ a, a ∈ arcsTo n f n.es.length ↔ a.1 < n.es.length ∧ 0 < arcRoom n.es f a := fun a => by simp [arcsTo, mem_allArcs]
  have hll := arcsTo_len (n := n) (f := f) n.es.length
  generalize arcsTo n f n.es.length = L at *
  have hends : ∀ a ∈ L, arcFr n.es a < N ∧ arcTo n.es a < N := fun a ha => ⟨(g.arc ((hmem a).1 ha).1).2.1, (g.arc ((hmem a).1 ha).1).1⟩
  rcases L with _ | ⟨a0, L0⟩
  all_goals
    repeat' (first | (exact (rfl : allOne _ = true)) | exact trivial | (refine (?_ : _ ≠ _); omega) | (refine (?_ : srcLen _ = rowsLen _); rfl) | (intro h; exact absurd h (Nat.succ_ne_zero _)) | (intro h; exact absurd h (Nat.not_lt_zero _))  | (exact (Nat.le_of_ble_eq_true rfl)) | (exact (by kernel_rfl : drawOk _ _ = true)) | refine ops_cons ?_ | refine ops_nil ?_ | refine opsD_cons ?_ | refine opsD_nil ?_ | refine any_step ?_ | refine any_nil ?_ | refine code_seq ?_ | refine code_cond ?_ | refine code_block ?_ | refine code_scope ?_ | refine code_skip ?_ | refine code_ret ?_ | refine code_exit ?_ | (refine And.intro ?_ ?_) | (intro h; first | exact Bool.noConfusion h | (simp at h; done) | simp at h | skip) | refine eqv_len_map ?_ | refine eqv_zero ?_ | refine eqv_wrap (by omega) (by omega) ?_ | refine eqv_to _ (set_map rfl rfl) ?_ | refine ⟨_, _, (by first | rfl | assumption), at_map (by assumption), ?_⟩ | refine ⟨_, at_map (by assumption), (by decide), ?_⟩ | refine ⟨_, at_map (by assumption), ?_⟩ | (refine (?_ : _ ≤ 140737488355328); simp [rowsLen] <;> omega) | (refine (?_ : _ ≤ 9223372036854775807); simp [rowsLen] <;> omega) | (refine (?_ : _ = rowsLen _); simp [rowsLen] <;> omega) | refine eqv_to _ (app_row rfl) (eqv_to _ app_len ?_) | refine eqv_to _ (app_first rfl) (eqv_to 1 rfl ?_) | refine idx_sl (at_map (by assumption)) (by omega) ?_ | refine idx_ms _ (by first | rfl | assumption) (by first | assumption | omega) ?_ | fail)
  case' nil =>
    refine ghost_region (ghost_arcs (s := 7) (id := 3) (L := []) (S := SW n N f x [] []) rfl rfl fun H' hl hH => ⟨[0, 1, 2], rfl, rfl, And.intro (hH 0 (by decide)) (And.intro (hH 1 (by decide)) (And.intro (hH 2 (by decide)) trivial)), rfl, rfl, rfl, rfl, trivial⟩) ?_
    generalize ([] : List Arc) = L at *
  case' cons =>
    refine ghost_region (ghost_arcs (s := 7) (id := 3) (L := a0 :: L0) (S := SW n N f x (a0 :: L0) []) rfl rfl fun H' hl hH => ⟨[0, 1, 2], rfl, rfl, And.intro (hH 0 (by decide)) (And.intro (hH 1 (by decide)) (And.intro (hH 2 (by decide)) trivial)), rfl, rfl, rfl, rfl, trivial⟩) ?_
    generalize (a0 :: L0 : List Arc) = L at *
  all_goals
    dsimp only [SW]
    repeat' (first | (exact (rfl : allOne _ = true)) | exact trivial | (refine (?_ : _ ≠ _); omega) | (refine (?_ : srcLen _ = rowsLen _); rfl) | (intro h; exact absurd h (Nat.succ_ne_zero _)) | (intro h; exact absurd h (Nat.not_lt_zero _))  | (exact (Nat.le_of_ble_eq_true rfl)) | (exact (by kernel_rfl : drawOk _ _ = true)) | refine ops_cons ?_ | refine ops_nil ?_ | refine opsD_cons ?_ | refine opsD_nil ?_ | refine any_step ?_ | refine any_nil ?_ | refine code_seq ?_ | refine code_region ?_ | refine code_cond ?_ | refine code_block ?_ | refine code_scope ?_ | refine code_skip ?_ | refine code_ret ?_ | refine code_exit ?_ | (refine And.intro ?_ ?_) | (intro h; first | exact Bool.noConfusion h | (simp at h; done) | simp at h | skip) | refine eqv_len_map ?_ | refine eqv_zero ?_ | refine eqv_wrap (by omega) (by omega) ?_ | refine eqv_to _ (set_map rfl rfl) ?_ | refine ⟨_, _, (by first | rfl | assumption), at_map (by assumption), ?_⟩ | refine ⟨_, at_map (by assumption), (by decide), ?_⟩ | refine ⟨_, at_map (by assumption), ?_⟩ | (refine (?_ : _ ≤ 140737488355328); simp [rowsLen] <;> omega) | (refine (?_ : _ ≤ 9223372036854775807); simp [rowsLen] <;> omega) | (refine (?_ : _ = rowsLen _); simp [rowsLen] <;> omega) | refine eqv_to _ (app_row rfl) (eqv_to _ app_len ?_) | refine eqv_to _ (app_first rfl) (eqv_to 1 rfl ?_) | refine idx_sl (at_map (by assumption)) (by omega) ?_ | refine idx_ms _ (by first | rfl | assumption) (by first | assumption | omega) ?_ | fail)
    have hBl : (x.map fun y => if 0 < y then (L.length : Int) else -1).length = N := by simp [hx]
    have hW := WInv.start (es := n.es) (L := L) hx
    have hBg : ∀ (i : Nat) (y : Int), x[i]? = some y → (x.map fun y => if 0 < y then (L.length : Int) else -1)[i]? = some (if 0 < y then (L.length : Int) else -1) := fun i y h => by rw [List.getElem?_map, h]; rfl
    generalize (x.map fun y => if 0 < y then (L.length : Int) else -1) = B at *
    refine ⟨N, N, hgn, hgn, Nat.le_refl _, by omega, by omega, eqv_to (encS (fillL B 0 0)) (by rw [fill_zero, hBl]; simp [encS, ei]) ?_⟩
    repeat' (first | (exact (rfl : allOne _ = true)) | exact trivial | (refine (?_ : _ ≠ _); omega) | (refine (?_ : srcLen _ = rowsLen _); rfl) | (intro h; exact absurd h (Nat.succ_ne_zero _)) | (intro h; exact absurd h (Nat.not_lt_zero _))  | (exact (Nat.le_of_ble_eq_true rfl)) | (exact (by kernel_rfl : drawOk _ _ = true)) | refine ops_cons ?_ | refine ops_nil ?_ | refine opsD_cons ?_ | refine opsD_nil ?_ | refine any_step ?_ | refine any_nil ?_ | refine code_seq ?_ | refine code_region ?_ | refine code_cond ?_ | refine code_block ?_ | refine code_scope ?_ | refine code_skip ?_ | refine code_ret ?_ | refine code_exit ?_ | (refine And.intro ?_ ?_) | (intro h; first | exact Bool.noConfusion h | (simp at h; done) | simp at h | skip) | refine eqv_len_map ?_ | refine eqv_zero ?_ | refine eqv_wrap (by omega) (by omega) ?_ | refine eqv_to _ (set_map rfl rfl) ?_ | refine ⟨_, _, (by first | rfl | assumption), at_map (by assumption), ?_⟩ | refine ⟨_, at_map (by assumption), (by decide), ?_⟩ | refine ⟨_, at_map (by assumption), ?_⟩ | (refine (?_ : _ ≤ 140737488355328); simp [rowsLen] <;> omega) | (refine (?_ : _ ≤ 9223372036854775807); simp [rowsLen] <;> omega) | (refine (?_ : _ = rowsLen _); simp [rowsLen] <;> omega) | refine eqv_to _ (app_row rfl) (eqv_to _ app_len ?_) | refine eqv_to _ (app_first rfl) (eqv_to 1 rfl ?_) | refine idx_sl (at_map (by assumption)) (by omega) ?_ | refine idx_ms _ (by first | rfl | assumption) (by first | assumption | omega) ?_ | fail)
    refine code_loop (fun i : Nat => SW n N f x L [(9, vint .i64 i), (8, .ms 3 1 0 N)] [iO (fillL B 0 i)]) (fun i => i ≤ N) (fun i => N - i) ⟨0, Nat.zero_le _, ⟨[0, 1, 2, 3], rfl, rfl, And.intro rfl (And.intro rfl (And.intro rfl (And.intro rfl trivial))), rfl, rfl, rfl, rfl, rfl, rfl, trivial⟩⟩ ?_
    intro i hi
    dsimp only [SW]
    repeat' (first | (exact (rfl : allOne _ = true)) | exact trivial | (refine (?_ : _ ≠ _); omega) | (refine (?_ : srcLen _ = rowsLen _); rfl) | (intro h; exact absurd h (Nat.succ_ne_zero _)) | (intro h; exact absurd h (Nat.not_lt_zero _))  | (exact (Nat.le_of_ble_eq_true rfl)) | (exact (by kernel_rfl : drawOk _ _ = true)) | refine ops_cons ?_ | refine ops_nil ?_ | refine opsD_cons ?_ | refine opsD_nil ?_ | refine any_step ?_ | refine any_nil ?_ | refine code_seq ?_ | refine code_region ?_ | refine code_cond ?_ | refine code_block ?_ | refine code_scope ?_ | refine code_skip ?_ | refine code_ret ?_ | refine code_exit ?_ | (refine And.intro ?_ ?_) | (intro h; first | exact Bool.noConfusion h | (simp at h; done) | simp at h | skip) | refine eqv_len_map ?_ | refine eqv_zero ?_ | refine eqv_wrap (by omega) (by omega) ?_ | refine eqv_to _ (set_map rfl rfl) ?_ | refine ⟨_, _, (by first | rfl | assumption), at_map (by assumption), ?_⟩ | refine ⟨_, at_map (by assumption), (by decide), ?_⟩ | refine ⟨_, at_map (by assumption), ?_⟩ | (refine (?_ : _ ≤ 140737488355328); simp [rowsLen] <;> omega) | (refine (?_ : _ ≤ 9223372036854775807); simp [rowsLen] <;> omega) | (refine (?_ : _ = rowsLen _); simp [rowsLen] <;> omega) | refine eqv_to _ (app_row rfl) (eqv_to _ app_len ?_) | refine eqv_to _ (app_first rfl) (eqv_to 1 rfl ?_) | refine idx_sl (at_map (by assumption)) (by omega) ?_ | refine idx_ms _ (by first | rfl | assumption) (by first | assumption | omega) ?_ | fail)
  all_goals try
    obtain ⟨y, hy⟩ := getE (show i < x.length by omega)
    have hb1 := hBg i y hy
    have hst := fill_step (d := 0) hb1
    have hg0 := fill_get (g := B) (d := (0 : Int)) (i := i) (by omega)
    have hfl2 := fill_len (g := B) (d := (0 : Int)) (i := i) (by omega)
    generalize fillL B 0 i = b0 at *
    have hg1 : (b0.set i (-1))[i]? = some (-1) := by rw [List.getElem?_set, if_pos rfl, if_pos (by omega)]
    repeat' (first | (exact (rfl : allOne _ = true)) | exact trivial | (refine (?_ : _ ≠ _); omega) | (refine (?_ : srcLen _ = rowsLen _); rfl) | (intro h; exact absurd h (Nat.succ_ne_zero _)) | (intro h; exact absurd h (Nat.not_lt_zero _))  | (exact (Nat.le_of_ble_eq_true rfl)) | (exact (by kernel_rfl : drawOk _ _ = true)) | refine ops_cons ?_ | refine ops_nil ?_ | refine opsD_cons ?_ | refine opsD_nil ?_ | refine any_step ?_ | refine any_nil ?_ | refine code_seq ?_ | refine code_region ?_ | refine code_cond ?_ | refine code_block ?_ | refine code_scope ?_ | refine code_skip ?_ | refine code_ret ?_ | refine code_exit ?_ | (refine And.intro ?_ ?_) | (intro h; first | exact Bool.noConfusion h | (simp at h; done) | simp at h | skip) | refine eqv_len_map ?_ | refine eqv_zero ?_ | refine eqv_wrap (by omega) (by omega) ?_ | refine eqv_to _ (set_map rfl rfl) ?_ | refine ⟨_, _, (by first | rfl | assumption), at_map (by assumption), ?_⟩ | refine ⟨_, at_map (by assumption), (by decide), ?_⟩ | refine ⟨_, at_map (by assumption), ?_⟩ | (refine (?_ : _ ≤ 140737488355328); simp [rowsLen] <;> omega) | (refine (?_ : _ ≤ 9223372036854775807); simp [rowsLen] <;> omega) | (refine (?_ : _ = rowsLen _); simp [rowsLen] <;> omega) | refine eqv_to _ (app_row rfl) (eqv_to _ app_len ?_) | refine eqv_to _ (app_first rfl) (eqv_to 1 rfl ?_) | refine idx_sl (at_map (by assumption)) (by omega) ?_ | refine idx_ms _ (by first | rfl | assumption) (by first | assumption | omega) ?_ | fail)
  all_goals try
    refine ⟨i + 1, by omega, by omega, ⟨[0, 1, 2, 3], rfl, rfl, And.intro rfl (And.intro rfl (And.intro rfl (And.intro ?_ trivial))), rfl, rfl, rfl, rfl, rfl, rfl, trivial⟩⟩
    first
      | (rw [← hst, if_pos (by assumption)]
         exact congrArg (fun l => some (some (⟨3, 1, false, .p (encS l)⟩ : AObj))) (List.set_set ..))
      | (rw [← hst, if_neg (by omega)]
         rfl)
  all_goals
    have eN : N = i := by omega
    subst eN
    rw [show fillL B 0 N = B by rw [← hBl]; exact fill_end]
    clear hBg hBl
    refine code_loop (fun X : Bool × List Int => SW n N f x L [(10, vbool X.1), (8, .ms 3 1 0 N)] [iO X.2]) (fun X => WInv n.es N L x X.2 ∧ (X.1 = false → ∀ a ∈ L, ¬ (0 ≤ X.2.getD (arcFr n.es a) 0 ∧ X.2.getD (arcTo n.es a) 0 < 0)))
      (fun X => 2 * cntN X.2 + (if X.1 then 1 else 0)) ⟨(true, B), ⟨hW, fun h => Bool.noConfusion h⟩, ⟨[0, 1, 2, 3], rfl, rfl, And.intro rfl (And.intro rfl (And.intro rfl (And.intro rfl trivial))), rfl, rfl, rfl, rfl, rfl, rfl, trivial⟩⟩ ?_
    clear hW
    rintro ⟨ag, b⟩ ⟨hW, hcl⟩
    dsimp only [SW] at hW hcl ⊢
    rcases ag with _ | _
    all_goals repeat' (first | (exact (rfl : allOne _ = true)) | exact trivial | (refine (?_ : _ ≠ _); omega) | (refine (?_ : srcLen _ = rowsLen _); rfl) | (intro h; exact absurd h (Nat.succ_ne_zero _)) | (intro h; exact absurd h (Nat.not_lt_zero _))  | (exact (Nat.le_of_ble_eq_true rfl)) | (exact (by kernel_rfl : drawOk _ _ = true)) | refine ops_cons ?_ | refine ops_nil ?_ | refine opsD_cons ?_ | refine opsD_nil ?_ | refine any_step ?_ | refine any_nil ?_ | refine code_seq ?_ | refine code_region ?_ | refine code_cond ?_ | refine code_block ?_ | refine code_scope ?_ | refine code_skip ?_ | refine code_ret ?_ | refine code_exit ?_ | (refine And.intro ?_ ?_) | (intro h; first | exact Bool.noConfusion h | (simp at h; done) | simp at h | skip) | refine eqv_len_map ?_ | refine eqv_zero ?_ | refine eqv_wrap (by omega) (by omega) ?_ | refine eqv_to _ (set_map rfl rfl) ?_ | refine ⟨_, _, (by first | rfl | assumption), at_map (by assumption), ?_⟩ | refine ⟨_, at_map (by assumption), (by decide), ?_⟩ | refine ⟨_, at_map (by assumption), ?_⟩ | (refine (?_ : _ ≤ 140737488355328); simp [rowsLen] <;> omega) | (refine (?_ : _ ≤ 9223372036854775807); simp [rowsLen] <;> omega) | (refine (?_ : _ = rowsLen _); simp [rowsLen] <;> omega) | refine eqv_to _ (app_row rfl) (eqv_to _ app_len ?_) | refine eqv_to _ (app_first rfl) (eqv_to 1 rfl ?_) | refine idx_sl (at_map (by assumption)) (by omega) ?_ | refine idx_ms _ (by first | rfl | assumption) (by first | assumption | omega) ?_ | fail)
  case' cons.refine_2.refine_2.true.refine_1 | nil.refine_2.refine_2.true.refine_1 =>
    refine code_loop (fun X : Nat × Bool × List Int => SW n N f x L [(11, vint .i64 X.1), (10, vbool X.2.1), (8, .ms 3 1 0 N)] [iO X.2.2]) (fun X => X.1 ≤ L.length ∧ WInv n.es N L x X.2.2 ∧ (X.2.1 = true → cntN X.2.2 < cntN b) ∧
        (X.2.1 = false → X.2.2 = b ∧ ∀ j a, j < X.1 → L[j]? = some a → ¬ (0 ≤ b.getD (arcFr n.es a) 0 ∧ b.getD (arcTo n.es a) 0 < 0)))
      (fun X => L.length - X.1) ⟨(0, false, b), ⟨Nat.zero_le _, hW, fun h => Bool.noConfusion h, fun _ => ⟨rfl, fun j a hj => absurd hj (Nat.not_lt_zero _)⟩⟩, ⟨[0, 1, 2, 3], rfl, rfl, And.intro rfl (And.intro rfl (And.intro rfl (And.intro rfl trivial))), rfl, rfl, rfl, rfl, rfl, rfl, rfl, trivial⟩⟩ ?_
    rintro ⟨i, ag, b'⟩ ⟨hi, hW', ht, hfa⟩
    dsimp only [SW] at hi hW' ht hfa ⊢
    repeat' (first | (exact (rfl : allOne _ = true)) | exact trivial | (refine (?_ : _ ≠ _); omega) | (refine (?_ : srcLen _ = rowsLen _); rfl) | (intro h; exact absurd h (Nat.succ_ne_zero _)) | (intro h; exact absurd h (Nat.not_lt_zero _))  | (exact (Nat.le_of_ble_eq_true rfl)) | (exact (by kernel_rfl : drawOk _ _ = true)) | refine ops_cons ?_ | refine ops_nil ?_ | refine opsD_cons ?_ | refine opsD_nil ?_ | refine any_step ?_ | refine any_nil ?_ | refine code_seq ?_ | refine code_region ?_ | refine code_cond ?_ | refine code_block ?_ | refine code_scope ?_ | refine code_skip ?_ | refine code_ret ?_ | refine code_exit ?_ | (refine And.intro ?_ ?_) | (intro h; first | exact Bool.noConfusion h | (simp at h; done) | simp at h | skip) | refine eqv_len_map ?_ | refine eqv_zero ?_ | refine eqv_wrap (by omega) (by omega) ?_ | refine eqv_to _ (set_map rfl rfl) ?_ | refine ⟨_, _, (by first | rfl | assumption), at_map (by assumption), ?_⟩ | refine ⟨_, at_map (by assumption), (by decide), ?_⟩ | refine ⟨_, at_map (by assumption), ?_⟩ | (refine (?_ : _ ≤ 140737488355328); simp [rowsLen] <;> omega) | (refine (?_ : _ ≤ 9223372036854775807); simp [rowsLen] <;> omega) | (refine (?_ : _ = rowsLen _); simp [rowsLen] <;> omega) | refine eqv_to _ (app_row rfl) (eqv_to _ app_len ?_) | refine eqv_to _ (app_first rfl) (eqv_to 1 rfl ?_) | refine idx_sl (at_map (by assumption)) (by omega) ?_ | refine idx_ms _ (by first | rfl | assumption) (by first | assumption | omega) ?_ | fail)
  all_goals try
    have hlt : i < L.length := by omega
    obtain ⟨a, ha⟩ := getE hlt
    obtain ⟨q1, q2⟩ := hends a (List.mem_of_getElem? ha)
    have hbl := hW'.len
    have hx1 := of_getD (l := b') (i := arcFr n.es a) 0 (by omega)
    have hx2 := of_getD (l := b') (i := arcTo n.es a) 0 (by omega)
    generalize hy1 : b'.getD (arcFr n.es a) 0 = y1 at *
    generalize hy2 : b'.getD (arcTo n.es a) 0 = y2 at *
    repeat' (first | (exact (rfl : allOne _ = true)) | exact trivial | (refine (?_ : _ ≠ _); omega) | (refine (?_ : srcLen _ = rowsLen _); rfl) | (intro h; exact absurd h (Nat.succ_ne_zero _)) | (intro h; exact absurd h (Nat.not_lt_zero _))  | (exact (Nat.le_of_ble_eq_true rfl)) | (exact (by kernel_rfl : drawOk _ _ = true)) | refine ops_cons ?_ | refine ops_nil ?_ | refine opsD_cons ?_ | refine opsD_nil ?_ | refine any_step ?_ | refine any_nil ?_ | refine code_seq ?_ | refine code_region ?_ | refine code_cond ?_ | refine code_block ?_ | refine code_scope ?_ | refine code_skip ?_ | refine code_ret ?_ | refine code_exit ?_ | (refine And.intro ?_ ?_) | (intro h; first | exact Bool.noConfusion h | (simp at h; done) | simp at h | skip) | refine eqv_len_map ?_ | refine eqv_zero ?_ | refine eqv_wrap (by omega) (by omega) ?_ | refine eqv_to _ (set_map rfl rfl) ?_ | refine ⟨_, _, (by first | rfl | assumption), at_map (by assumption), ?_⟩ | refine ⟨_, at_map (by assumption), (by decide), ?_⟩ | refine ⟨_, at_map (by assumption), ?_⟩ | (refine (?_ : _ ≤ 140737488355328); simp [rowsLen] <;> omega) | (refine (?_ : _ ≤ 9223372036854775807); simp [rowsLen] <;> omega) | (refine (?_ : _ = rowsLen _); simp [rowsLen] <;> omega) | refine eqv_to _ (app_row rfl) (eqv_to _ app_len ?_) | refine eqv_to _ (app_first rfl) (eqv_to 1 rfl ?_) | refine idx_sl (at_map (by assumption)) (by omega) ?_ | refine idx_ms _ (by first | rfl | assumption) (by first | assumption | omega) ?_ | fail)
  all_goals try
    have hstep : ∀ j a', j < i + 1 → L[j]? = some a' → j < i ∨ a' = a := fun j a' hj hja => by
      rcases Nat.lt_succ_iff_lt_or_eq.1 hj with k | k
      · exact .inl k
      · subst k; rw [ha] at hja; injection hja with hja; exact .inr hja.symm
    first
      | (have h1 : 0 ≤ y1 := by assumption
         have h2 : y2 < 0 := by assumption
         rw [← hy1] at h1
         rw [← hy2] at h2
         obtain ⟨w1, w2⟩ := hW'.label ha q1 q2 h1 h2
         refine ⟨(i + 1, true, b'.set (arcTo n.es a) i), ⟨by dsimp only; omega, w1, fun _ => ?_, fun h => Bool.noConfusion h⟩, by dsimp only; omega, ⟨[0, 1, 2, 3], rfl, rfl, And.intro rfl (And.intro rfl (And.intro rfl (And.intro rfl trivial))), rfl, rfl, rfl, rfl, rfl, rfl, rfl, trivial⟩⟩
         dsimp only
         cases ag
         · rw [(hfa rfl).1] at w2 ⊢; omega
         · have := ht rfl; omega)
      | (have hno : ¬ (0 ≤ b'.getD (arcFr n.es a) 0 ∧ b'.getD (arcTo n.es a) 0 < 0) := by rw [hy1, hy2]; omega
         refine ⟨(i + 1, ag, b'), ⟨by dsimp only; omega, hW', ht, fun hag => ⟨(hfa hag).1, fun j a' hj hja => ?_⟩⟩, by dsimp only; omega, ⟨[0, 1, 2, 3], rfl, rfl, And.intro rfl (And.intro rfl (And.intro rfl (And.intro rfl trivial))), rfl, rfl, rfl, rfl, rfl, rfl, rfl, trivial⟩⟩
         rcases hstep j a' hj hja with k | k
         · exact (hfa hag).2 j a' k hja
         · rw [k, ← (hfa hag).1]; exact hno)
  all_goals try
    refine ⟨(ag, b'), ⟨hW', fun hag a ha => ?_⟩, ?_, ⟨[0, 1, 2, 3], rfl, rfl, And.intro rfl (And.intro rfl (And.intro rfl (And.intro rfl trivial))), rfl, rfl, rfl, rfl, rfl, rfl, trivial⟩⟩
    · obtain ⟨j, hj, e⟩ := List.getElem_of_mem ha
      rw [(hfa hag).1]
      exact (hfa hag).2 j a (by omega) (by rw [List.getElem?_eq_getElem hj, e])
    · dsimp only
      cases ag
      · rw [(hfa rfl).1]; simp
      · have := ht rfl; simp; omega
  case' cons.refine_2.refine_2.false.refine_2 | nil.refine_2.refine_2.false.refine_2 =>
    have hbl := hW.len
    refine code_loop (fun i : Nat => SW n N f x L [(12, vint .i64 i), (8, .ms 3 1 0 N)] [iO b]) (fun i => i ≤ N ∧ ∀ j, j < i → x.getD j 0 < 0 → b.getD j 0 < 0) (fun i => N - i) ⟨0, ⟨Nat.zero_le _, fun j hj => absurd hj (Nat.not_lt_zero _)⟩, ⟨[0, 1, 2, 3], rfl, rfl, And.intro rfl (And.intro rfl (And.intro rfl (And.intro rfl trivial))), rfl, rfl, rfl, rfl, rfl, rfl, trivial⟩⟩ ?_
    rintro i ⟨hi, hno⟩
    dsimp only [SW] at hi hno ⊢
    repeat' (first | (exact (rfl : allOne _ = true)) | exact trivial | (refine (?_ : _ ≠ _); omega) | (refine (?_ : srcLen _ = rowsLen _); rfl) | (intro h; exact absurd h (Nat.succ_ne_zero _)) | (intro h; exact absurd h (Nat.not_lt_zero _))  | (exact (Nat.le_of_ble_eq_true rfl)) | (exact (by kernel_rfl : drawOk _ _ = true)) | refine ops_cons ?_ | refine ops_nil ?_ | refine opsD_cons ?_ | refine opsD_nil ?_ | refine any_step ?_ | refine any_nil ?_ | refine code_seq ?_ | refine code_region ?_ | refine code_cond ?_ | refine code_block ?_ | refine code_scope ?_ | refine code_skip ?_ | refine code_ret ?_ | refine code_exit ?_ | (refine And.intro ?_ ?_) | (intro h; first | exact Bool.noConfusion h | (simp at h; done) | simp at h | skip) | refine eqv_len_map ?_ | refine eqv_zero ?_ | refine eqv_wrap (by omega) (by omega) ?_ | refine eqv_to _ (set_map rfl rfl) ?_ | refine ⟨_, _, (by first | rfl | assumption), at_map (by assumption), ?_⟩ | refine ⟨_, at_map (by assumption), (by decide), ?_⟩ | refine ⟨_, at_map (by assumption), ?_⟩ | (refine (?_ : _ ≤ 140737488355328); simp [rowsLen] <;> omega) | (refine (?_ : _ ≤ 9223372036854775807); simp [rowsLen] <;> omega) | (refine (?_ : _ = rowsLen _); simp [rowsLen] <;> omega) | refine eqv_to _ (app_row rfl) (eqv_to _ app_len ?_) | refine eqv_to _ (app_first rfl) (eqv_to 1 rfl ?_) | refine idx_sl (at_map (by assumption)) (by omega) ?_ | refine idx_ms _ (by first | rfl | assumption) (by first | assumption | omega) ?_ | fail)
  all_goals try
    have hiN : i < N := by omega
    have hx1 := of_getD (l := x) (i := i) 0 (by omega)
    have hx2 := of_getD (l := b) (i := i) 0 (by omega)
    generalize hy1 : x.getD i 0 = y1 at *
    generalize hy2 : b.getD i 0 = y2 at *
    repeat' (first | (exact (rfl : allOne _ = true)) | exact trivial | (refine (?_ : _ ≠ _); omega) | (refine (?_ : srcLen _ = rowsLen _); rfl) | (intro h; exact absurd h (Nat.succ_ne_zero _)) | (intro h; exact absurd h (Nat.not_lt_zero _))  | (exact (Nat.le_of_ble_eq_true rfl)) | (exact (by kernel_rfl : drawOk _ _ = true)) | refine ops_cons ?_ | refine ops_nil ?_ | refine opsD_cons ?_ | refine opsD_nil ?_ | refine any_step ?_ | refine any_nil ?_ | refine code_seq ?_ | refine code_region ?_ | refine code_cond ?_ | refine code_block ?_ | refine code_scope ?_ | refine code_skip ?_ | refine code_ret ?_ | refine code_exit ?_ | (refine And.intro ?_ ?_) | (intro h; first | exact Bool.noConfusion h | (simp at h; done) | simp at h | skip) | refine eqv_len_map ?_ | refine eqv_zero ?_ | refine eqv_wrap (by omega) (by omega) ?_ | refine eqv_to _ (set_map rfl rfl) ?_ | refine ⟨_, _, (by first | rfl | assumption), at_map (by assumption), ?_⟩ | refine ⟨_, at_map (by assumption), (by decide), ?_⟩ | refine ⟨_, at_map (by assumption), ?_⟩ | (refine (?_ : _ ≤ 140737488355328); simp [rowsLen] <;> omega) | (refine (?_ : _ ≤ 9223372036854775807); simp [rowsLen] <;> omega) | (refine (?_ : _ = rowsLen _); simp [rowsLen] <;> omega) | refine eqv_to _ (app_row rfl) (eqv_to _ app_len ?_) | refine eqv_to _ (app_first rfl) (eqv_to 1 rfl ?_) | refine idx_sl (at_map (by assumption)) (by omega) ?_ | refine idx_ms _ (by first | rfl | assumption) (by first | assumption | omega) ?_ | fail)
  all_goals try
    have hstep : ∀ j, j < i + 1 → j < i ∨ j = i := fun j hj => Nat.lt_succ_iff_lt_or_eq.1 hj
    refine ⟨i + 1, ⟨by omega, fun j hj hxj => ?_⟩, by omega, ⟨[0, 1, 2, 3], rfl, rfl, And.intro rfl (And.intro rfl (And.intro rfl (And.intro rfl trivial))), rfl, rfl, rfl, rfl, rfl, rfl, trivial⟩⟩
    rcases hstep j hj with k | k
    · exact hno j k hxj
    · subst k; rw [hy1] at hxj; rw [hy2]; omega
  case' cons.refine_2.refine_2.false.refine_2.refine_2 | nil.refine_2.refine_2.false.refine_2.refine_2 =>
    obtain rfl : i = N := by omega
    refine ret_obj [0, 1] [iO f, iO x] rfl rfl (And.intro rfl (And.intro rfl trivial)) (r' := .pv (.val (.slice none 0 0))) rfl ⟨encRs n.es f [], ALe.pv PLe.nil, [], rfl, rfl, .inl ⟨rfl, b.map (fun k => decide (0 ≤ k)), by simp [hbl], ?_⟩⟩
    have hg : ∀ v, v < i → (b.map (fun k => decide (0 ≤ k))).getD v false = decide (0 ≤ b.getD v 0) := fun v hv => by
      rw [List.getD_eq_getElem?_getD, List.getElem?_map, of_getD 0 (show v < b.length by omega)]; rfl
    refine ⟨fun v hv hxv => ?_, fun v hv hxv => ?_, fun a ha h1 h2 => ?_⟩
    · rw [hg v hv, decide_eq_true_eq, (hW.src v hv).2 hxv]; omega
    · rw [hg v hv, decide_eq_false_iff_not]; have := hno v hv hxv; omega
    · have hal := (hmem a).2 ⟨ha, h2⟩
      obtain ⟨q1, q2⟩ := hends a hal
      rw [hg _ q1, decide_eq_true_eq] at h1
      rw [hg _ q2, decide_eq_true_eq]
      have := hcl rfl a hal
      omega
  all_goals
    obtain ⟨P, r, hP, hr, hxr⟩ := hW.way (fun a ha => (hends a ha).1) hiN (by rw [hy2]; assumption)
    obtain ⟨hP1, hP2⟩ := hP.chain
    have hP3 := hP.nodup
    have hP4 : P.length ≤ 8192 := by
      have := nodup_len n.es.length (P.map (·.1)) hP3 fun y hy => by
        obtain ⟨a, ha, rfl⟩ := List.mem_map.1 hy
        exact ((hmem a).1 (hP2 a ha)).1
      rw [List.length_map] at this
      omega
    have hxi : x.getD i 0 < 0 := by rw [hy1]; assumption
    have hPne : P ≠ [] := fun e => by
      subst e
      have e2 : i = r := hP1
      rw [e2] at hxi
      omega
    have hpath : PathS n N f x P := ⟨hPne, i, r, hiN, hr, hxi, hxr, hP1, hP3, by omega, fun a ha => (hmem a).1 (hP2 a ha)⟩
    refine code_loop (fun X : Nat × List Arc × List Arc => SW n N f x L [(13, slR 4 n.es f X.2.1), (12, vint .i64 X.1), (8, .ms 3 1 0 N)] [iO b, obR n.es f X.2.1]) (fun X => X.1 < N ∧ X.2.1 ++ X.2.2 = P ∧ WayR n.es L b X.1 X.2.2 r) (fun X => X.2.2.length)
      ⟨(i, [], P), ⟨hiN, rfl, hP⟩, ⟨[0, 1, 2, 3, 4], rfl, rfl, And.intro rfl (And.intro rfl (And.intro rfl (And.intro rfl trivial))), rfl, rfl, rfl, rfl, rfl, rfl, rfl, trivial⟩⟩ ?_
    clear hP hP1 hP2 hP3 hx1 hx2 hy1 hy2 hxi hcl hno hi hxr
    rintro ⟨v, P1, P2⟩ ⟨hv, hPP, hP⟩
    dsimp only [SW] at hv hPP hP ⊢
    have hx3 := of_getD (l := b) (i := v) 0 (by omega)
    have hlen : P1.length + P2.length = P.length := by rw [← hPP, List.length_append]
    rcases hP.view with ⟨hP2, hvr, hbv⟩ | ⟨a, Q, k, hP2, hbv, hkL, hLk, hto, hQ⟩
    all_goals
      rw [hbv] at hx3
      subst hP2
      simp only [List.length_cons, List.length_nil] at hlen
      rcases P1 with _ | ⟨a1, P1⟩
    all_goals simp only [List.length_cons, List.length_nil] at hlen
    all_goals repeat' (first | (exact (rfl : allOne _ = true)) | exact trivial | (refine (?_ : _ ≠ _); omega) | (refine (?_ : srcLen _ = rowsLen _); rfl) | (intro h; exact absurd h (Nat.succ_ne_zero _)) | (intro h; exact absurd h (Nat.not_lt_zero _))  | (exact (Nat.le_of_ble_eq_true rfl)) | (exact (by kernel_rfl : drawOk _ _ = true)) | refine ops_cons ?_ | refine ops_nil ?_ | refine opsD_cons ?_ | refine opsD_nil ?_ | refine any_step ?_ | refine any_nil ?_ | refine code_seq ?_ | refine code_region ?_ | refine code_cond ?_ | refine code_block ?_ | refine code_scope ?_ | refine code_skip ?_ | refine code_ret ?_ | refine code_exit ?_ | (refine And.intro ?_ ?_) | (intro h; first | exact Bool.noConfusion h | (simp at h; done) | simp at h | skip) | refine eqv_len_map ?_ | refine eqv_zero ?_ | refine eqv_wrap (by omega) (by omega) ?_ | refine eqv_to _ (set_map rfl rfl) ?_ | refine ⟨_, _, (by first | rfl | assumption), at_map (by assumption), ?_⟩ | refine ⟨_, at_map (by assumption), (by decide), ?_⟩ | refine ⟨_, at_map (by assumption), ?_⟩ | (refine (?_ : _ ≤ 140737488355328); simp [rowsLen] <;> omega) | (refine (?_ : _ ≤ 9223372036854775807); simp [rowsLen] <;> omega) | (refine (?_ : _ = rowsLen _); simp [rowsLen] <;> omega) | refine eqv_to _ (app_row rfl) (eqv_to _ app_len ?_) | refine idx_sl (at_map (by assumption)) (by omega) ?_ | refine idx_ms _ (by first | rfl | assumption) (by first | assumption | omega) ?_ | fail)
  all_goals try
    (exfalso; omega)
  all_goals try
    (exfalso; exact hPne (by rw [← hPP]; rfl))
  all_goals try
    refine eqv_to (.p (([a] : List Arc).map (encR n.es f))) rfl (eqv_to 1 rfl ?_)
    repeat' (first | (exact (rfl : allOne _ = true)) | exact trivial | (refine (?_ : _ ≠ _); omega) | (refine (?_ : srcLen _ = rowsLen _); rfl) | (intro h; exact absurd h (Nat.succ_ne_zero _)) | (intro h; exact absurd h (Nat.not_lt_zero _))  | (exact (Nat.le_of_ble_eq_true rfl)) | (exact (by kernel_rfl : drawOk _ _ = true)) | refine ops_cons ?_ | refine ops_nil ?_ | refine opsD_cons ?_ | refine opsD_nil ?_ | refine any_step ?_ | refine any_nil ?_ | refine code_seq ?_ | refine code_region ?_ | refine code_cond ?_ | refine code_block ?_ | refine code_scope ?_ | refine code_skip ?_ | refine code_ret ?_ | refine code_exit ?_ | (refine And.intro ?_ ?_) | (intro h; first | exact Bool.noConfusion h | (simp at h; done) | simp at h | skip) | refine eqv_len_map ?_ | refine eqv_zero ?_ | refine eqv_wrap (by omega) (by omega) ?_ | refine eqv_to _ (set_map rfl rfl) ?_ | refine ⟨_, _, (by first | rfl | assumption), at_map (by assumption), ?_⟩ | refine ⟨_, at_map (by assumption), (by decide), ?_⟩ | refine ⟨_, at_map (by assumption), ?_⟩ | (refine (?_ : _ ≤ 140737488355328); simp [rowsLen] <;> omega) | (refine (?_ : _ ≤ 9223372036854775807); simp [rowsLen] <;> omega) | (refine (?_ : _ = rowsLen _); simp [rowsLen] <;> omega) | refine eqv_to _ (app_row rfl) (eqv_to _ app_len ?_) | refine idx_sl (at_map (by assumption)) (by omega) ?_ | refine idx_ms _ (by first | rfl | assumption) (by first | assumption | omega) ?_ | fail)
  all_goals try
    first
      | exact ⟨(arcFr n.es a, [a], Q), ⟨(hends a (List.mem_of_getElem? hLk)).1, hPP, hQ⟩, Nat.lt_succ_self _, ⟨[0, 1, 2, 3, 6], rfl, rfl, And.intro rfl (And.intro rfl (And.intro rfl (And.intro rfl (And.intro rfl trivial)))), rfl, rfl, rfl, rfl, rfl, rfl, rfl, trivial⟩⟩
      | exact ⟨(arcFr n.es a, (a1 :: P1) ++ [a], Q), ⟨(hends a (List.mem_of_getElem? hLk)).1, by rw [List.append_assoc]; exact hPP, hQ⟩, Nat.lt_succ_self _, ⟨[0, 1, 2, 3, 6], rfl, rfl, And.intro rfl (And.intro rfl (And.intro rfl (And.intro rfl (And.intro rfl trivial)))), rfl, rfl, rfl, rfl, rfl, rfl, rfl, trivial⟩⟩
  all_goals
    have hPP : a1 :: P1 = P := by rw [← hPP, List.append_nil]
    refine ret_conv [0, 1] [iO f, iO x] rfl rfl (And.intro rfl (And.intro rfl trivial)) rfl (by show 0 + _ ≤ List.length _; simp) rfl ⟨encRs n.es f P, ?_, P, rfl, rfl, .inr hpath⟩
    rw [List.drop_zero, List.take_of_length_le (by simp), ← hPP]
    exact ALe.refl

theorem c_way {n : Net} {N : Nat} {A : List (List Arc)} {f x : List Int} (g : GOk n N A) (hf : FOk n f) (hx : x.length = N) :
    ACall Try.prog 34 [encN n, .ms 0 1 0 n.es.length, .ms 1 1 0 N] [iO f, iO x] (fun r H' => ∃ P, r = encRs n.es f P ∧ H' = [iO f, iO x] ∧ ((P.length = 0 ∧ CutS n N f x) ∨ PathS n N f x P)) :=
  (c_way0 g hf hx).weak fun _ _ h => h
end Go.Proofs.Ytlhakdmenohdnaa.Cw

/-
  The reference's cycle: the plain law.
-/
namespace Go.Proofs.Ytlhakdmenohdnaa.Cw
open Go.Cw Go.Proofs
set_option linter.unusedVariables false

/-- Labels in a round, after so many arcs of it; st: in which round a node was last lowered; T: at which step. -/
structure BF (es : List Edge) (N : Nat) (L : List Arc) (ρ i : Nat) (far b : List Int) (st T : Nat → Nat) (τ : Nat) : Prop where
  lf : far.length = N
  lb : b.length = N
  bnd : ∀ v, v < N → -(CM * τ) ≤ far.getD v 0 ∧ far.getD v 0 ≤ 0
  tb : τ ≤ ρ * L.length + i
  tlt : ∀ v, T v ≤ τ
  stle : ∀ v, st v ≤ ρ + 1
  rel : ∀ v, v < N → 0 < st v → ∃ (k : Nat) (a : Arc), b.getD v 0 = k ∧ L[k]? = some a ∧ arcTo es a = v ∧ far.getD (arcFr es a) 0 + arcCo es a ≤ far.getD v 0 ∧ (T v ≤ T (arcFr es a) → far.getD (arcFr es a) 0 + arcCo es a < far.getD v 0) ∧ st v ≤ st (arcFr es a) + 1
  p1 : ∀ (j : Nat) a, j < i → L[j]? = some a → far.getD (arcTo es a) 0 ≤ far.getD (arcFr es a) 0 + arcCo es a ∨ ρ + 1 ≤ st (arcFr es a)
  p2 : ∀ (j : Nat) a, i ≤ j → L[j]? = some a → far.getD (arcTo es a) 0 ≤ far.getD (arcFr es a) 0 + arcCo es a ∨ ρ ≤ st (arcFr es a)

section
variable {es : List Edge} {N : Nat} {L : List Arc} {ρ i : Nat} {far b : List Int} {st T : Nat → Nat} {τ : Nat}

theorem BF.start : BF es N L 0 0 (List.replicate N 0) (List.replicate N 0) (fun _ => 0) (fun _ => 0) 0 := by
  have hg : ∀ v, (List.replicate N (0 : Int)).getD v 0 = 0 := fun v => by
    simp only [List.getD_eq_getElem?_getD, List.getElem?_replicate]; split <;> rfl
  exact ⟨by simp, by simp, fun v hv => by rw [hg]; simp, by simp, fun v => Nat.le_refl _, fun v => by omega, fun v hv h => absurd h (Nat.lt_irrefl _), fun j a hj => absurd hj (Nat.not_lt_zero _), fun j a _ _ => .inr (Nat.zero_le _)⟩

theorem BF.round (h : BF es N L ρ L.length far b st T τ) : BF es N L (ρ + 1) 0 far b st T τ :=
  ⟨h.lf, h.lb, h.bnd, by rw [Nat.add_mul]; have := h.tb; omega, h.tlt, fun v => by have := h.stle v; omega, h.rel, fun j a hj => absurd hj (Nat.not_lt_zero _), fun j a _ hj => h.p1 j a (List.getElem?_eq_some_iff.1 hj).1 hj⟩

theorem BF.skip (h : BF es N L ρ i far b st T τ) {a : Arc} (ha : L[i]? = some a) (hn : far.getD (arcTo es a) 0 ≤ far.getD (arcFr es a) 0 + arcCo es a) : BF es N L ρ (i + 1) far b st T τ :=
  ⟨h.lf, h.lb, h.bnd, by have := h.tb; omega, h.tlt, h.stle, h.rel, fun j a' hj hja => by
    rcases Nat.lt_succ_iff_lt_or_eq.1 hj with k | k
    · exact h.p1 j a' k hja
    · subst k; rw [ha] at hja; injection hja with hja; subst hja; exact .inl hn, fun j a' hj hja => h.p2 j a' (by omega) hja⟩

theorem BF.relax (h : BF es N L ρ i far b st T τ) {a : Arc} (ha : L[i]? = some a) (h1 : arcFr es a < N) (h2 : arcTo es a < N) (hc : -CM ≤ arcCo es a) (hn : far.getD (arcFr es a) 0 + arcCo es a < far.getD (arcTo es a) 0) :
    BF es N L ρ (i + 1) (far.set (arcTo es a) (far.getD (arcFr es a) 0 + arcCo es a)) (b.set (arcTo es a) i) (fun v => if arcTo es a = v then ρ + 1 else st v) (fun v => if arcTo es a = v then τ + 1 else T v) (τ + 1) := by
  have hi := (List.getElem?_eq_some_iff.1 ha).1
  have hf : ∀ v, (far.set (arcTo es a) (far.getD (arcFr es a) 0 + arcCo es a)).getD v 0 = if arcTo es a = v then far.getD (arcFr es a) 0 + arcCo es a else far.getD v 0 := fun v => by
    rw [getD_set, h.lf]; simp only [h2, and_true]
  have hb : ∀ v, (b.set (arcTo es a) (i : Int)).getD v 0 = if arcTo es a = v then (i : Int) else b.getD v 0 := fun v => by
    rw [getD_set, h.lb]; simp only [h2, and_true]
  have hu : ρ ≤ st (arcFr es a) := by
    rcases h.p2 i a (Nat.le_refl _) ha with k | k
    · omega
    · exact k
  have hbu := h.bnd _ h1
  have hbv := h.bnd _ h2
  have htu := h.tlt (arcFr es a)
  have key : ∀ a' : Arc, (far.getD (arcTo es a') 0 ≤ far.getD (arcFr es a') 0 + arcCo es a') → arcFr es a' ≠ arcTo es a → (if arcTo es a = arcTo es a' then far.getD (arcFr es a) 0 + arcCo es a else far.getD (arcTo es a') 0) ≤ far.getD (arcFr es a') 0 + arcCo es a' := fun a' k hne => by
    split
    · rename_i e; rw [← e] at k; omega
    · exact k
  refine ⟨by simp [h.lf], by simp [h.lb], fun v hv => ?_, by have := h.tb; omega, fun v => ?_, fun v => ?_, fun v hv hs => ?_, fun j a' hj hja => ?_, fun j a' hj hja => ?_⟩
  · rw [hf]
    have := h.bnd v hv
    have e1 : CM * ((τ + 1 : Nat) : Int) = CM * τ + CM := by rw [Int.natCast_add, Int.mul_add]; omega
    rw [e1]
    have : (0 : Int) ≤ CM := by decide
    split <;> omega
  · have := h.tlt v; split <;> omega
  · have := h.stle v; split <;> omega
  · rw [hf, hb]

    by_cases e : arcTo es a = v
    · subst e
      simp only [if_true]
      refine ⟨i, a, rfl, ha, rfl, ?_, ?_, ?_⟩
      · rw [hf]; split
        · rename_i e; rw [e] at hn; omega
        · omega
      · intro ht
        rw [hf]
        split
        · rename_i e; rw [e] at hn; omega
        · rename_i e; rw [if_neg e] at ht; omega
      · split <;> omega
    · simp only [e, if_false] at hs ⊢
      obtain ⟨k, a', q1, q2, q3, q4, q5, q6⟩ := h.rel v hv hs
      refine ⟨k, a', q1, q2, q3, ?_, ?_, ?_⟩
      · rw [hf]; split
        · rename_i e2; rw [← e2] at q4; omega
        · exact q4
      · rw [hf]
        split
        · rename_i e2; intro _; rw [← e2] at q4; omega
        · exact q5
      · have := h.stle v
        split
        · omega
        · exact q6
  · rw [hf, hf]

    by_cases e : arcTo es a = arcFr es a'
    · exact .inr (by rw [if_pos e]; exact Nat.le_refl _)
    · rw [if_neg e, if_neg e]
      rcases Nat.lt_succ_iff_lt_or_eq.1 hj with k | k
      · rcases h.p1 j a' k hja with k2 | k2
        · exact .inl (key a' k2 fun e2 => e e2.symm)
        · exact .inr k2
      · subst k; rw [ha] at hja; injection hja with hja; subst hja
        exact .inl (by rw [if_pos rfl]; exact Int.le_refl _)
  · rw [hf, hf]

    by_cases e : arcTo es a = arcFr es a'
    · exact .inr (by rw [if_pos e]; omega)
    · rw [if_neg e, if_neg e]
      rcases h.p2 j a' (by omega) hja with k2 | k2
      · exact .inl (key a' k2 fun e2 => e e2.symm)
      · exact .inr k2

/-- The arc by which a node was lowered last, and from where. -/
def arcAt (L : List Arc) (b : List Int) (v : Nat) : Arc := L.getD (b.getD v 0).toNat (0, false)
def nxt (es : List Edge) (L : List Arc) (b : List Int) (v : Nat) : Nat := arcFr es (arcAt L b v)
def iter (es : List Edge) (L : List Arc) (b : List Int) : Nat → Nat → Nat
  | 0, v => v
  | k + 1, v => nxt es L b (iter es L b k v)

theorem iter_add (p q v : Nat) : iter es L b (p + q) v = iter es L b p (iter es L b q v) := by
  induction p with
  | zero => rw [Nat.zero_add]; rfl
  | succ p ih => rw [Nat.add_right_comm]; show nxt es L b _ = nxt es L b _; rw [ih]

theorem BF.at (h : BF es N L ρ i far b st T τ) (hL : ∀ a ∈ L, arcFr es a < N) {v : Nat} (hv : v < N) (hs : 0 < st v) :
    ∃ k : Nat, b.getD v 0 = k ∧ L[k]? = some (arcAt L b v) ∧ arcTo es (arcAt L b v) = v ∧ nxt es L b v < N ∧ far.getD (nxt es L b v) 0 + arcCo es (arcAt L b v) ≤ far.getD v 0 ∧
      (T v ≤ T (nxt es L b v) → far.getD (nxt es L b v) 0 + arcCo es (arcAt L b v) < far.getD v 0) ∧ st v ≤ st (nxt es L b v) + 1 := by
  obtain ⟨k, a, q1, q2, q3, q4, q5, q6⟩ := h.rel v hv hs
  have e : arcAt L b v = a := by unfold arcAt; rw [q1, Int.toNat_natCast]; exact getD_of q2
  have e2 : nxt es L b v = arcFr es a := by unfold nxt; rw [e]
  rw [e2, e]
  exact ⟨k, q1, q2, q3, hL a (List.mem_of_getElem? q2), q4, q5, q6⟩

theorem least {P : Nat → Prop} : ∀ n, P n → ∃ m, P m ∧ m ≤ n ∧ ∀ k, k < m → ¬ P k := fun n => by
  induction n using Nat.strongRecOn with
  | _ n ih =>
    intro h
    by_cases e : ∃ m, m < n ∧ P m
    · obtain ⟨m, h1, h2⟩ := e
      obtain ⟨m', g1, g2, g3⟩ := ih m h1 h2
      exact ⟨m', g1, by omega, g3⟩
    · exact ⟨n, h, Nat.le_refl _, fun k hk hp => e ⟨k, hk, hp⟩⟩

/-- Among more numbers than there are, two are the same. -/
theorem twice (s : Nat → Nat) (hs : ∀ j, j ≤ N → s j < N) : ∃ a b, a < b ∧ b ≤ N ∧ s a = s b := by
  apply Classical.byContradiction
  intro hno
  have hd : ((List.range (N + 1)).map s).Nodup := by
    rw [List.Nodup, List.pairwise_iff_getElem]
    intro x y hx hy hxy e
    simp only [List.length_map, List.length_range] at hx hy
    simp only [List.getElem_map, List.getElem_range] at e
    exact hno ⟨x, y, hxy, by omega, e⟩
  have := nodup_len N _ hd fun x hx => by
    obtain ⟨j, hj, rfl⟩ := List.mem_map.1 hx
    exact hs j (by have := List.mem_range.1 hj; omega)
  simp at this
  omega

/-- Walking back so long ends on a circle of nodes that were all lowered. -/
theorem BF.circle (h : BF es N L ρ i far b st T τ) (hL : ∀ a ∈ L, arcFr es a < N) {v : Nat} (hv : v < N) (hs : N < st v) :
    (∀ j, j ≤ N → iter es L b j v < N ∧ N < st (iter es L b j v) + j) ∧ (∀ j, iter es L b j (iter es L b N v) < N ∧ 0 < st (iter es L b j (iter es L b N v))) ∧
      ∃ p, 1 ≤ p ∧ p ≤ N ∧ iter es L b p (iter es L b N v) = iter es L b N v ∧ ∀ q, 1 ≤ q → q < p → iter es L b q (iter es L b N v) ≠ iter es L b N v := by
  have k1 : ∀ j, j ≤ N → iter es L b j v < N ∧ N < st (iter es L b j v) + j := fun j => by
    induction j with
    | zero => exact fun _ => ⟨hv, hs⟩
    | succ j ih =>
      intro hj
      obtain ⟨g1, g2⟩ := ih (by omega)
      obtain ⟨k, _, _, _, q1, _, _, q2⟩ := h.at hL g1 (by omega)
      exact ⟨q1, by show N < st (nxt es L b (iter es L b j v)) + (j + 1); omega⟩
  obtain ⟨a, c, hac, hcN, e⟩ := twice (fun j => iter es L b j v) fun j hj => (k1 j hj).1
  have per : ∀ j, a ≤ j → iter es L b (j + (c - a)) v = iter es L b j v := fun j hj => by
    obtain ⟨d, rfl⟩ := Nat.le.dest hj
    rw [show a + d + (c - a) = d + c by omega, iter_add d c, show a + d = d + a by omega, iter_add d a]
    exact congrArg _ e.symm
  have small : ∀ j, a ≤ j → ∃ k, k ≤ N ∧ iter es L b k v = iter es L b j v := fun j => by
    induction j using Nat.strongRecOn with
    | _ j ih =>
      intro hj
      by_cases hjc : j ≤ N
      · exact ⟨j, hjc, rfl⟩
      · obtain ⟨k, g1, g2⟩ := ih (j - (c - a)) (by omega) (by omega)
        refine ⟨k, g1, g2.trans ?_⟩
        have := per (j - (c - a)) (by omega)
        rw [show j - (c - a) + (c - a) = j by omega] at this
        exact this.symm
  refine ⟨k1, fun j => ?_, ?_⟩
  · rw [← iter_add]
    by_cases ej : j = 0
    · subst ej
      obtain ⟨g1, g2⟩ := k1 N (Nat.le_refl _)
      rw [Nat.zero_add]
      obtain ⟨k, g3, g4⟩ := small N (by omega)
      exact ⟨g1, by omega⟩
    · obtain ⟨k, g3, g4⟩ := small (j + N) (by omega)
      rw [← g4]
      obtain ⟨g1, g2⟩ := k1 k g3
      exact ⟨g1, by omega⟩
  · obtain ⟨m, ⟨m1, m2⟩, m3, m4⟩ := least (P := fun p => 1 ≤ p ∧ iter es L b p (iter es L b N v) = iter es L b N v) (c - a) ⟨by omega, by
      rw [← iter_add, Nat.add_comm]; exact per N (by omega)⟩
    exact ⟨m, m1, by omega, m2, fun q q1 q2 e => m4 q q2 ⟨q1, e⟩⟩

/-- The arcs of a walk back. -/
def back (es : List Edge) (L : List Arc) (b : List Int) (w : Nat) : Nat → List Arc
  | 0 => []
  | k + 1 => back es L b w k ++ [arcAt L b (iter es L b k w)]

theorem back_len (w k : Nat) : (back es L b w k).length = k := by
  induction k with
  | zero => rfl
  | succ k ih => simp [back, ih]

theorem back_get (w : Nat) : ∀ (k j : Nat), j < k → (back es L b w k)[j]? = some (arcAt L b (iter es L b j w))
  | 0, j, h => absurd h (Nat.not_lt_zero _)
  | k + 1, j, h => by
    simp only [back]
    by_cases e : j < k
    · rw [List.getElem?_append_left (by rw [back_len]; exact e)]; exact back_get w k j e
    · have : j = k := by omega
      subst this
      rw [List.getElem?_append_right (by rw [back_len]; omega), back_len]; simp

theorem chain_append {v m r : Nat} : ∀ {P Q : List Arc}, Chain es v P m → Chain es m Q r → Chain es v (P ++ Q) r
  | [], Q, h, k => by have : v = m := h; subst this; exact k
  | a :: P, Q, h, k => ⟨h.1, chain_append h.2 k⟩

theorem sumCo_append (P Q : List Arc) : sumCo es (P ++ Q) = sumCo es P + sumCo es Q := by
  induction P with
  | nil => simp [sumCo]
  | cons a P ih => simp only [List.cons_append, sumCo, ih]; omega

theorem BF.chain (h : BF es N L ρ i far b st T τ) (hL : ∀ a ∈ L, arcFr es a < N) {w : Nat} (hw : ∀ j, iter es L b j w < N ∧ 0 < st (iter es L b j w)) (k : Nat) :
    Chain es w (back es L b w k) (iter es L b k w) ∧ (sumCo es (back es L b w k) < far.getD w 0 - far.getD (iter es L b k w) 0 ∨ (sumCo es (back es L b w k) ≤ far.getD w 0 - far.getD (iter es L b k w) 0 ∧ T (iter es L b k w) + k ≤ T w)) := by
  induction k with
  | zero => exact ⟨rfl, .inr ⟨by simp [back, sumCo, iter], Nat.le_refl _⟩⟩
  | succ k ih =>
    obtain ⟨k0, q1, q2, q3, q4, q5, q6, q7⟩ := h.at hL (hw k).1 (hw k).2
    refine ⟨chain_append ih.1 ⟨q3, rfl⟩, ?_⟩
    have e : sumCo es (back es L b w (k + 1)) = sumCo es (back es L b w k) + arcCo es (arcAt L b (iter es L b k w)) := by
      simp only [back, sumCo_append, sumCo]; omega
    have e2 : iter es L b (k + 1) w = nxt es L b (iter es L b k w) := rfl
    rw [e, e2]
    rcases ih.2 with g | ⟨g1, g2⟩
    · exact .inl (by omega)
    · by_cases ht : T (iter es L b k w) ≤ T (nxt es L b (iter es L b k w))
      · exact .inl (by have := q6 ht; omega)
      · exact .inr ⟨by omega, by omega⟩

/-- A circle of arcs: it costs less than nothing, and no edge is met twice. -/
theorem BF.cycle (h : BF es N L ρ i far b st T τ) (hL : ∀ a ∈ L, arcFr es a < N) {w p : Nat} (hw : ∀ j, iter es L b j w < N ∧ 0 < st (iter es L b j w)) (hp : 1 ≤ p) (he : iter es L b p w = w) (hm : ∀ q, 1 ≤ q → q < p → iter es L b q w ≠ w) :
    Chain es w (back es L b w p) w ∧ sumCo es (back es L b w p) < 0 ∧ ((back es L b w p).map (·.1)).Nodup ∧ ∀ a ∈ back es L b w p, a ∈ L := by
  obtain ⟨c1, c2⟩ := h.chain hL hw p
  rw [he] at c1 c2
  have hneg : sumCo es (back es L b w p) < 0 := by omega
  have dist : ∀ s t, s < t → t < p → iter es L b s w ≠ iter es L b t w := fun s t hst htp e => by
    refine hm (p - t + s) (by omega) (by omega) ?_
    rw [iter_add, e, ← iter_add, show p - t + t = p by omega, he]
  refine ⟨c1, hneg, ?_, fun a ha => ?_⟩
  · rw [List.Nodup, List.pairwise_iff_getElem]
    intro s t hs ht hst e
    simp only [List.length_map, back_len] at hs ht
    have gs := back_get (es := es) (L := L) (b := b) w p s hs
    have gt := back_get (es := es) (L := L) (b := b) w p t ht
    rw [List.getElem?_eq_getElem (by rw [back_len]; exact hs)] at gs
    rw [List.getElem?_eq_getElem (by rw [back_len]; exact ht)] at gt
    injection gs with gs
    injection gt with gt
    simp only [List.getElem_map, gs, gt] at e
    obtain ⟨_, _, _, s3, _⟩ := h.at hL (hw s).1 (hw s).2
    obtain ⟨_, _, _, t3, _⟩ := h.at hL (hw t).1 (hw t).2
    by_cases e2 : (arcAt L b (iter es L b t w)).2 = (arcAt L b (iter es L b s w)).2
    · have : arcAt L b (iter es L b t w) = arcAt L b (iter es L b s w) := Prod.ext e.symm e2
      rw [this, s3] at t3
      exact dist s t hst ht t3
    · have e3 : arcAt L b (iter es L b t w) = ((arcAt L b (iter es L b s w)).1, !(arcAt L b (iter es L b s w)).2) := Prod.ext e.symm (by
        cases h5 : (arcAt L b (iter es L b s w)).2 <;> cases h6 : (arcAt L b (iter es L b t w)).2 <;> simp_all)
      obtain ⟨r1, r2, r3⟩ := arc_rev es (arcAt L b (iter es L b s w))
      rw [← e3] at r1 r2 r3
      have x1 : iter es L b t w = iter es L b (s + 1) w := by rw [← t3, r1]; rfl
      have x2 : iter es L b (t + 1) w = iter es L b s w := by rw [← s3]; exact r2
      have t1 : t = s + 1 := by
        rcases Nat.lt_or_ge (s + 1) t with k | k
        · exact absurd x1.symm (dist (s + 1) t k ht)
        · omega
      subst t1
      rcases Nat.lt_or_ge (s + 1 + 1) p with k | k
      · exact dist s (s + 1 + 1) (by omega) k x2.symm
      · have hp2 : p = s + 1 + 1 := by omega
        rw [← hp2, he] at x2
        have s0 : s = 0 := by
          rcases Nat.eq_zero_or_pos s with k | k
          · exact k
          · exact absurd x2 (dist 0 s k (by omega))
        subst s0
        subst hp2
        simp only [back, List.nil_append, List.cons_append, sumCo] at hneg
        rw [r3] at hneg
        omega
  · obtain ⟨j, hj, rfl⟩ := List.getElem_of_mem ha
    rw [back_len] at hj
    have g := back_get (es := es) (L := L) (b := b) w p j hj
    rw [List.getElem?_eq_getElem (by rw [back_len]; exact hj)] at g
    injection g with g
    rw [g]
    obtain ⟨k, _, q, _⟩ := h.at hL (hw j).1 (hw j).2
    exact List.mem_of_getElem? q
end
end Go.Proofs.Ytlhakdmenohdnaa.Cw

/-
  The contract of the reference's cycle.
-/
namespace Go.Proofs.Ytlhakdmenohdnaa.Cw
open Go.Cw Go.Proofs
set_option linter.unusedVariables false
set_option maxRecDepth 100000
set_option maxHeartbeats 4000000

/-- The state of cycle: more slots and objects than these come ahead. -/
def SC (n : Net) (N : Nat) (f : List Int) (L : List Arc) (more : Slots) (objs : Heap := []) : ASt :=
  ⟨more ++ [(5, encRs n.es f L), (2, .ptr 1 2 0 0), (1, .ms 0 1 0 n.es.length)], iO f :: some ⟨24, 2, false, .box [.pv (ei n.nodes), .pv (.sl 5 (n.es.map encE))]⟩ :: objs⟩

def PotS (n : Net) (N : Nat) (f : List Int) : Prop := ∃ q : List Int, Feas n f (fun v => q.getD v 0)
def CircS (n : Net) (f : List Int) (P : List Arc) : Prop := P ≠ [] ∧ (∃ w, Chain n.es w P w) ∧ sumCo n.es P < 0 ∧ (P.map (·.1)).Nodup ∧ P.length ≤ 16384 ∧ ∀ a ∈ P, a.1 < n.es.length ∧ 0 < arcRoom n.es f a

theorem c_cycle0 {n : Net} {N : Nat} {A : List (List Arc)} {f : List Int} (g : GOk n N A) (hf : FOk n f) (hN1 : 1 ≤ N) :
    ACall Try.prog 36 [encN n, .ms 0 1 0 n.es.length] [iO f] (fun r H' => ∃ r2, ALe r r2 ∧ ∃ P, r2 = encRs n.es f P ∧ H' = [iO f] ∧ ((P.length = 0 ∧ PotS n N f) ∨ CircS n f P)) := by
  have hm := g.mlen
  have hN := g.len
  have hgn := g.nodes
  have hfl := hf.len
  refine acall_of tok mixed 136 rfl (fn := Try.f36) (c := Try.f36.body.getD .skip) (by kernel_rfl) (by kernel_rfl) (by kernel_rfl) rfl 1 rfl ?_
  repeat' (first | (exact (rfl : allOne _ = true)) | exact trivial | (refine (?_ : _ ≠ _); omega) | (refine (?_ : srcLen _ = rowsLen _); rfl) | (intro h; exact absurd h (Nat.succ_ne_zero _)) | (intro h; exact absurd h (Nat.not_lt_zero _))  | (exact (Nat.le_of_ble_eq_true rfl)) | (exact (by kernel_rfl : drawOk _ _ = true)) | refine ops_cons ?_ | refine ops_nil ?_ | refine opsD_cons ?_ | refine opsD_nil ?_ | refine any_step ?_ | refine any_nil ?_ | refine code_seq ?_ | refine code_cond ?_ | refine code_block ?_ | refine code_scope ?_ | refine code_skip ?_ | refine code_ret ?_ | refine code_exit ?_ | (refine And.intro ?_ ?_) | (intro h; first | exact Bool.noConfusion h | (simp at h; done) | simp at h | skip) | refine eqv_len_map ?_ | refine eqv_zero ?_ | refine eqv_wrap (by omega) (by omega) ?_ | refine eqv_to _ (set_map rfl rfl) ?_ | refine ⟨_, _, (by first | rfl | assumption), at_map (by assumption), ?_⟩ | refine ⟨_, at_map (by assumption), (by decide), ?_⟩ | refine ⟨_, at_map (by assumption), ?_⟩ | (refine (?_ : _ ≤ 140737488355328); simp [rowsLen] <;> omega) | (refine (?_ : _ ≤ 9223372036854775807); simp [rowsLen] <;> omega) | (refine (?_ : _ = rowsLen _); simp [rowsLen] <;> omega) | refine eqv_to _ (app_row rfl) (eqv_to _ app_len ?_) | refine eqv_to _ (app_first rfl) (eqv_to 1 rfl ?_) | refine idx_sl (at_map (by assumption)) (by omega) ?_ | refine idx_ms _ (by first | rfl | assumption) (by first | assumption | omega) ?_ | fail)
  refine code_region ?_
  repeat' (first | (exact (rfl : allOne _ = true)) | exact trivial | (refine (?_ : _ ≠ _); omega) | (refine (?_ : srcLen _ = rowsLen _); rfl) | (intro h; exact absurd h (Nat.succ_ne_zero _)) | (intro h; exact absurd h (Nat.not_lt_zero _))  | (exact (Nat.le_of_ble_eq_true rfl)) | (exact (by kernel_rfl : drawOk _ _ = true)) | refine ops_cons ?_ | refine ops_nil ?_ | refine opsD_cons ?_ | refine opsD_nil ?_ | refine any_step ?_ | refine any_nil ?_ | refine code_seq ?_ | refine code_cond ?_ | refine code_block ?_ | refine code_scope ?_ | refine code_skip ?_ | refine code_ret ?_ | refine code_exit ?_ | (refine And.intro ?_ ?_) | (intro h; first | exact Bool.noConfusion h | (simp at h; done) | simp at h | skip) | refine eqv_len_map ?_ | refine eqv_zero ?_ | refine eqv_wrap (by omega) (by omega) ?_ | refine eqv_to _ (set_map rfl rfl) ?_ | refine ⟨_, _, (by first | rfl | assumption), at_map (by assumption), ?_⟩ | refine ⟨_, at_map (by assumption), (by decide), ?_⟩ | refine ⟨_, at_map (by assumption), ?_⟩ | (refine (?_ : _ ≤ 140737488355328); simp [rowsLen] <;> omega) | (refine (?_ : _ ≤ 9223372036854775807); simp [rowsLen] <;> omega) | (refine (?_ : _ = rowsLen _); simp [rowsLen] <;> omega) | refine eqv_to _ (app_row rfl) (eqv_to _ app_len ?_) | refine eqv_to _ (app_first rfl) (eqv_to 1 rfl ?_) | refine idx_sl (at_map (by assumption)) (by omega) ?_ | refine idx_ms _ (by first | rfl | assumption) (by first | assumption | omega) ?_ | fail)
  refine code_region ?_
  repeat' (first | (exact (rfl : allOne _ = true)) | exact trivial | (refine (?_ : _ ≠ _); omega) | (refine (?_ : srcLen _ = rowsLen _); rfl) | (intro h; exact absurd h (Nat.succ_ne_zero _)) | (intro h; exact absurd h (Nat.not_lt_zero _))  | (exact (Nat.le_of_ble_eq_true rfl)) | (exact (by kernel_rfl : drawOk _ _ = true)) | refine ops_cons ?_ | refine ops_nil ?_ | refine opsD_cons ?_ | refine opsD_nil ?_ | refine any_step ?_ | refine any_nil ?_ | refine code_seq ?_ | refine code_cond ?_ | refine code_block ?_ | refine code_scope ?_ | refine code_skip ?_ | refine code_ret ?_ | refine code_exit ?_ | (refine And.intro ?_ ?_) | (intro h; first | exact Bool.noConfusion h | (simp at h; done) | simp at h | skip) | refine eqv_len_map ?_ | refine eqv_zero ?_ | refine eqv_wrap (by omega) (by omega) ?_ | refine eqv_to _ (set_map rfl rfl) ?_ | refine ⟨_, _, (by first | rfl | assumption), at_map (by assumption), ?_⟩ | refine ⟨_, at_map (by assumption), (by decide), ?_⟩ | refine ⟨_, at_map (by assumption), ?_⟩ | (refine (?_ : _ ≤ 140737488355328); simp [rowsLen] <;> omega) | (refine (?_ : _ ≤ 9223372036854775807); simp [rowsLen] <;> omega) | (refine (?_ : _ = rowsLen _); simp [rowsLen] <;> omega) | refine eqv_to _ (app_row rfl) (eqv_to _ app_len ?_) | refine eqv_to _ (app_first rfl) (eqv_to 1 rfl ?_) | refine idx_sl (at_map (by assumption)) (by omega) ?_ | refine idx_ms _ (by first | rfl | assumption) (by first | assumption | omega) ?_ | fail)
  refine call_obj [0] [iO f] [encN n, .ms 0 1 0 n.es.length] rfl ⟨rfl, trivial⟩ rfl (c_arcs g hf) ?_
  rintro r H' ⟨rfl, rfl⟩
  refine ⟨Nat.le_of_ble_eq_true rfl, ?_⟩
  have hmem : ∀ a, a ∈ arcsTo n f n.es.length ↔ a.1 < n.es.length ∧ 0 < arcRoom n.es f a := fun a => by simp [arcsTo, mem_allArcs]
  have hll := arcsTo_len (n := n) (f := f) n.es.length
  generalize arcsTo n f n.es.length = L at *
  have hends : ∀ a ∈ L, arcFr n.es a < N ∧ arcTo n.es a < N ∧ -CM ≤ arcCo n.es a ∧ arcCo n.es a ≤ CM := fun a ha => by
    obtain ⟨q1, q2, q3, q4⟩ := g.arc ((hmem a).1 ha).1
    exact ⟨q2, q1, q3, q4⟩
  rcases L with _ | ⟨a0, L0⟩
  all_goals
    repeat' (first | (exact (rfl : allOne _ = true)) | exact trivial | (refine (?_ : _ ≠ _); omega) | (refine (?_ : srcLen _ = rowsLen _); rfl) | (intro h; exact absurd h (Nat.succ_ne_zero _)) | (intro h; exact absurd h (Nat.not_lt_zero _))  | (exact (Nat.le_of_ble_eq_true rfl)) | (exact (by kernel_rfl : drawOk _ _ = true)) | refine ops_cons ?_ | refine ops_nil ?_ | refine opsD_cons ?_ | refine opsD_nil ?_ | refine any_step ?_ | refine any_nil ?_ | refine code_seq ?_ | refine code_cond ?_ | refine code_block ?_ | refine code_scope ?_ | refine code_skip ?_ | refine code_ret ?_ | refine code_exit ?_ | (refine And.intro ?_ ?_) | (intro h; first | exact Bool.noConfusion h | (simp at h; done) | simp at h | skip) | refine eqv_len_map ?_ | refine eqv_zero ?_ | refine eqv_wrap (by omega) (by omega) ?_ | refine eqv_to _ (set_map rfl rfl) ?_ | refine ⟨_, _, (by first | rfl | assumption), at_map (by assumption), ?_⟩ | refine ⟨_, at_map (by assumption), (by decide), ?_⟩ | refine ⟨_, at_map (by assumption), ?_⟩ | (refine (?_ : _ ≤ 140737488355328); simp [rowsLen] <;> omega) | (refine (?_ : _ ≤ 9223372036854775807); simp [rowsLen] <;> omega) | (refine (?_ : _ = rowsLen _); simp [rowsLen] <;> omega) | refine eqv_to _ (app_row rfl) (eqv_to _ app_len ?_) | refine eqv_to _ (app_first rfl) (eqv_to 1 rfl ?_) | refine idx_sl (at_map (by assumption)) (by omega) ?_ | refine idx_ms _ (by first | rfl | assumption) (by first | assumption | omega) ?_ | fail)
  case' nil =>
    refine ghost_region (ghost_arcs (s := 5) (id := 2) (L := []) (S := SC n N f [] []) rfl rfl fun H' hl hH => ⟨[0, 1], rfl, rfl, And.intro (hH 0 (by decide)) (And.intro (hH 1 (by decide)) trivial), rfl, rfl, rfl, trivial⟩) ?_
    generalize ([] : List Arc) = L at *
  case' cons =>
    refine ghost_region (ghost_arcs (s := 5) (id := 2) (L := a0 :: L0) (S := SC n N f (a0 :: L0) []) rfl rfl fun H' hl hH => ⟨[0, 1], rfl, rfl, And.intro (hH 0 (by decide)) (And.intro (hH 1 (by decide)) trivial), rfl, rfl, rfl, trivial⟩) ?_
    generalize (a0 :: L0 : List Arc) = L at *
  all_goals
    dsimp only [SC]
    repeat' (first | (exact (rfl : allOne _ = true)) | exact trivial | (refine (?_ : _ ≠ _); omega) | (refine (?_ : srcLen _ = rowsLen _); rfl) | (intro h; exact absurd h (Nat.succ_ne_zero _)) | (intro h; exact absurd h (Nat.not_lt_zero _))  | (exact (Nat.le_of_ble_eq_true rfl)) | (exact (by kernel_rfl : drawOk _ _ = true)) | refine ops_cons ?_ | refine ops_nil ?_ | refine opsD_cons ?_ | refine opsD_nil ?_ | refine any_step ?_ | refine any_nil ?_ | refine code_seq ?_ | refine code_region ?_ | refine code_cond ?_ | refine code_block ?_ | refine code_scope ?_ | refine code_skip ?_ | refine code_ret ?_ | refine code_exit ?_ | (refine And.intro ?_ ?_) | (intro h; first | exact Bool.noConfusion h | (simp at h; done) | simp at h | skip) | refine eqv_len_map ?_ | refine eqv_zero ?_ | refine eqv_wrap (by omega) (by omega) ?_ | refine eqv_to _ (set_map rfl rfl) ?_ | refine ⟨_, _, (by first | rfl | assumption), at_map (by assumption), ?_⟩ | refine ⟨_, at_map (by assumption), (by decide), ?_⟩ | refine ⟨_, at_map (by assumption), ?_⟩ | (refine (?_ : _ ≤ 140737488355328); simp [rowsLen] <;> omega) | (refine (?_ : _ ≤ 9223372036854775807); simp [rowsLen] <;> omega) | (refine (?_ : _ = rowsLen _); simp [rowsLen] <;> omega) | refine eqv_to _ (app_row rfl) (eqv_to _ app_len ?_) | refine eqv_to _ (app_first rfl) (eqv_to 1 rfl ?_) | refine idx_sl (at_map (by assumption)) (by omega) ?_ | refine idx_ms _ (by first | rfl | assumption) (by first | assumption | omega) ?_ | fail)
    refine ⟨N, N, hgn, hgn, Nat.le_refl _, by omega, by omega, eqv_to (encS (List.replicate N 0)) (by simp [encS, ei]) ?_⟩
    repeat' (first | (exact (rfl : allOne _ = true)) | exact trivial | (refine (?_ : _ ≠ _); omega) | (refine (?_ : srcLen _ = rowsLen _); rfl) | (intro h; exact absurd h (Nat.succ_ne_zero _)) | (intro h; exact absurd h (Nat.not_lt_zero _))  | (exact (Nat.le_of_ble_eq_true rfl)) | (exact (by kernel_rfl : drawOk _ _ = true)) | refine ops_cons ?_ | refine ops_nil ?_ | refine opsD_cons ?_ | refine opsD_nil ?_ | refine any_step ?_ | refine any_nil ?_ | refine code_seq ?_ | refine code_region ?_ | refine code_cond ?_ | refine code_block ?_ | refine code_scope ?_ | refine code_skip ?_ | refine code_ret ?_ | refine code_exit ?_ | (refine And.intro ?_ ?_) | (intro h; first | exact Bool.noConfusion h | (simp at h; done) | simp at h | skip) | refine eqv_len_map ?_ | refine eqv_zero ?_ | refine eqv_wrap (by omega) (by omega) ?_ | refine eqv_to _ (set_map rfl rfl) ?_ | refine ⟨_, _, (by first | rfl | assumption), at_map (by assumption), ?_⟩ | refine ⟨_, at_map (by assumption), (by decide), ?_⟩ | refine ⟨_, at_map (by assumption), ?_⟩ | (refine (?_ : _ ≤ 140737488355328); simp [rowsLen] <;> omega) | (refine (?_ : _ ≤ 9223372036854775807); simp [rowsLen] <;> omega) | (refine (?_ : _ = rowsLen _); simp [rowsLen] <;> omega) | refine eqv_to _ (app_row rfl) (eqv_to _ app_len ?_) | refine eqv_to _ (app_first rfl) (eqv_to 1 rfl ?_) | refine idx_sl (at_map (by assumption)) (by omega) ?_ | refine idx_ms _ (by first | rfl | assumption) (by first | assumption | omega) ?_ | fail)
    refine ⟨N, N, hgn, hgn, Nat.le_refl _, by omega, by omega, eqv_to (encS (List.replicate N 0)) (by simp [encS, ei]) ?_⟩
    repeat' (first | (exact (rfl : allOne _ = true)) | exact trivial | (refine (?_ : _ ≠ _); omega) | (refine (?_ : srcLen _ = rowsLen _); rfl) | (intro h; exact absurd h (Nat.succ_ne_zero _)) | (intro h; exact absurd h (Nat.not_lt_zero _))  | (exact (Nat.le_of_ble_eq_true rfl)) | (exact (by kernel_rfl : drawOk _ _ = true)) | refine ops_cons ?_ | refine ops_nil ?_ | refine opsD_cons ?_ | refine opsD_nil ?_ | refine any_step ?_ | refine any_nil ?_ | refine code_seq ?_ | refine code_region ?_ | refine code_cond ?_ | refine code_block ?_ | refine code_scope ?_ | refine code_skip ?_ | refine code_ret ?_ | refine code_exit ?_ | (refine And.intro ?_ ?_) | (intro h; first | exact Bool.noConfusion h | (simp at h; done) | simp at h | skip) | refine eqv_len_map ?_ | refine eqv_zero ?_ | refine eqv_wrap (by omega) (by omega) ?_ | refine eqv_to _ (set_map rfl rfl) ?_ | refine ⟨_, _, (by first | rfl | assumption), at_map (by assumption), ?_⟩ | refine ⟨_, at_map (by assumption), (by decide), ?_⟩ | refine ⟨_, at_map (by assumption), ?_⟩ | (refine (?_ : _ ≤ 140737488355328); simp [rowsLen] <;> omega) | (refine (?_ : _ ≤ 9223372036854775807); simp [rowsLen] <;> omega) | (refine (?_ : _ = rowsLen _); simp [rowsLen] <;> omega) | refine eqv_to _ (app_row rfl) (eqv_to _ app_len ?_) | refine eqv_to _ (app_first rfl) (eqv_to 1 rfl ?_) | refine idx_sl (at_map (by assumption)) (by omega) ?_ | refine idx_ms _ (by first | rfl | assumption) (by first | assumption | omega) ?_ | fail)
    refine code_loop (fun X : Nat × Int × List Int × List Int => SC n N f L [(9, vint .i64 X.1), (8, vint .i64 X.2.1), (7, .ms 3 1 0 N), (6, .ms 2 1 0 N)] [iO X.2.2.1, iO X.2.2.2])
      (fun X => X.1 ≤ N + 1 ∧ ∃ st T τ, BF n.es N L X.1 0 X.2.2.1 X.2.2.2 st T τ ∧ ((X.1 = 0 ∧ X.2.1 = -1) ∨ ∃ v : Nat, v < N ∧ X.2.1 = v ∧ X.1 ≤ st v)) (fun X => N + 1 - X.1)
      ⟨(0, -1, List.replicate N 0, List.replicate N 0), ⟨Nat.zero_le _, _, _, _, BF.start, .inl ⟨rfl, rfl⟩⟩, ⟨[0, 1, 2, 3], rfl, rfl, And.intro rfl (And.intro rfl (And.intro rfl (And.intro rfl trivial))), rfl, rfl, rfl, rfl, rfl, rfl, rfl, trivial⟩⟩ ?_
    rintro ⟨ρ, last, far, b⟩ ⟨hρ, st, T, τ, hB, hlast⟩
    dsimp only [SC] at hρ hB hlast ⊢
    repeat' (first | (exact (rfl : allOne _ = true)) | exact trivial | (refine (?_ : _ ≠ _); omega) | (refine (?_ : srcLen _ = rowsLen _); rfl) | (intro h; exact absurd h (Nat.succ_ne_zero _)) | (intro h; exact absurd h (Nat.not_lt_zero _))  | (exact (Nat.le_of_ble_eq_true rfl)) | (exact (by kernel_rfl : drawOk _ _ = true)) | refine ops_cons ?_ | refine ops_nil ?_ | refine opsD_cons ?_ | refine opsD_nil ?_ | refine any_step ?_ | refine any_nil ?_ | refine code_seq ?_ | refine code_region ?_ | refine code_cond ?_ | refine code_block ?_ | refine code_scope ?_ | refine code_skip ?_ | refine code_ret ?_ | refine code_exit ?_ | (refine And.intro ?_ ?_) | (intro h; first | exact Bool.noConfusion h | (simp at h; done) | simp at h | skip) | refine eqv_len_map ?_ | refine eqv_zero ?_ | refine eqv_wrap (by omega) (by omega) ?_ | refine eqv_to _ (set_map rfl rfl) ?_ | refine ⟨_, _, (by first | rfl | assumption), at_map (by assumption), ?_⟩ | refine ⟨_, at_map (by assumption), (by decide), ?_⟩ | refine ⟨_, at_map (by assumption), ?_⟩ | (refine (?_ : _ ≤ 140737488355328); simp [rowsLen] <;> omega) | (refine (?_ : _ ≤ 9223372036854775807); simp [rowsLen] <;> omega) | (refine (?_ : _ = rowsLen _); simp [rowsLen] <;> omega) | refine eqv_to _ (app_row rfl) (eqv_to _ app_len ?_) | refine eqv_to _ (app_first rfl) (eqv_to 1 rfl ?_) | refine idx_sl (at_map (by assumption)) (by omega) ?_ | refine idx_ms _ (by first | rfl | assumption) (by first | assumption | omega) ?_ | fail)
  all_goals try
    have hρN : ρ ≤ N := by omega
    refine code_loop (fun X : Nat × Int × List Int × List Int => SC n N f L [(10, vint .i64 X.1), (9, vint .i64 ρ), (8, vint .i64 X.2.1), (7, .ms 3 1 0 N), (6, .ms 2 1 0 N)] [iO X.2.2.1, iO X.2.2.2])
      (fun X => X.1 ≤ L.length ∧ ∃ st T τ, BF n.es N L ρ X.1 X.2.2.1 X.2.2.2 st T τ ∧ ((X.2.1 = -1 ∧ ∀ (j : Nat) a, j < X.1 → L[j]? = some a → X.2.2.1.getD (arcTo n.es a) 0 ≤ X.2.2.1.getD (arcFr n.es a) 0 + arcCo n.es a) ∨ ∃ v : Nat, v < N ∧ X.2.1 = v ∧ ρ + 1 ≤ st v)) (fun X => L.length - X.1)
      ⟨(0, -1, far, b), ⟨Nat.zero_le _, st, T, τ, hB, .inl ⟨rfl, fun j a hj => absurd hj (Nat.not_lt_zero _)⟩⟩, ⟨[0, 1, 2, 3], rfl, rfl, And.intro rfl (And.intro rfl (And.intro rfl (And.intro rfl trivial))), rfl, rfl, rfl, rfl, rfl, rfl, rfl, rfl, trivial⟩⟩ ?_
    clear hB hlast
    rintro ⟨i, last, far, b⟩ ⟨hi, st, T, τ, hB, hlast⟩
    dsimp only [SC] at hi hB hlast ⊢
    repeat' (first | (exact (rfl : allOne _ = true)) | exact trivial | (refine (?_ : _ ≠ _); omega) | (refine (?_ : srcLen _ = rowsLen _); rfl) | (intro h; exact absurd h (Nat.succ_ne_zero _)) | (intro h; exact absurd h (Nat.not_lt_zero _))  | (exact (Nat.le_of_ble_eq_true rfl)) | (exact (by kernel_rfl : drawOk _ _ = true)) | refine ops_cons ?_ | refine ops_nil ?_ | refine opsD_cons ?_ | refine opsD_nil ?_ | refine any_step ?_ | refine any_nil ?_ | refine code_seq ?_ | refine code_region ?_ | refine code_cond ?_ | refine code_block ?_ | refine code_scope ?_ | refine code_skip ?_ | refine code_ret ?_ | refine code_exit ?_ | (refine And.intro ?_ ?_) | (intro h; first | exact Bool.noConfusion h | (simp at h; done) | simp at h | skip) | refine eqv_len_map ?_ | refine eqv_zero ?_ | refine eqv_wrap (by omega) (by omega) ?_ | refine eqv_to _ (set_map rfl rfl) ?_ | refine ⟨_, _, (by first | rfl | assumption), at_map (by assumption), ?_⟩ | refine ⟨_, at_map (by assumption), (by decide), ?_⟩ | refine ⟨_, at_map (by assumption), ?_⟩ | (refine (?_ : _ ≤ 140737488355328); simp [rowsLen] <;> omega) | (refine (?_ : _ ≤ 9223372036854775807); simp [rowsLen] <;> omega) | (refine (?_ : _ = rowsLen _); simp [rowsLen] <;> omega) | refine eqv_to _ (app_row rfl) (eqv_to _ app_len ?_) | refine eqv_to _ (app_first rfl) (eqv_to 1 rfl ?_) | refine idx_sl (at_map (by assumption)) (by omega) ?_ | refine idx_ms _ (by first | rfl | assumption) (by first | assumption | omega) ?_ | fail)
  all_goals try
    have hil : i < L.length := by omega
    obtain ⟨a, ha⟩ := getE hil
    obtain ⟨q1, q2, q3, q4⟩ := hends a (List.mem_of_getElem? ha)
    have hfl := hB.lf
    have hbl := hB.lb
    have ht1 : ρ * L.length ≤ 2048 * 16384 := Nat.mul_le_mul (by omega) (by omega)
    have ht2 := hB.tb
    have hx1 := of_getD (l := far) (i := arcFr n.es a) 0 (by omega)
    have hx2 := of_getD (l := far) (i := arcTo n.es a) 0 (by omega)
    obtain ⟨u1, u2⟩ := hB.bnd _ q1
    obtain ⟨w1, w2⟩ := hB.bnd _ q2
    have hx3 := of_getD (l := b) (i := arcTo n.es a) 0 (by omega)
    have hrl := fun h => hB.relax ha q1 q2 q3 h
    have hsk := fun h => hB.skip ha h
    generalize hu : far.getD (arcFr n.es a) 0 = u at *
    generalize hw : far.getD (arcTo n.es a) 0 = w at *
    simp only [CM] at q3 q4 u1 w1
    repeat' (first | (exact (rfl : allOne _ = true)) | exact trivial | (refine (?_ : _ ≠ _); omega) | (refine (?_ : srcLen _ = rowsLen _); rfl) | (intro h; exact absurd h (Nat.succ_ne_zero _)) | (intro h; exact absurd h (Nat.not_lt_zero _))  | (exact (Nat.le_of_ble_eq_true rfl)) | (exact (by kernel_rfl : drawOk _ _ = true)) | refine ops_cons ?_ | refine ops_nil ?_ | refine opsD_cons ?_ | refine opsD_nil ?_ | refine any_step ?_ | refine any_nil ?_ | refine code_seq ?_ | refine code_region ?_ | refine code_cond ?_ | refine code_block ?_ | refine code_scope ?_ | refine code_skip ?_ | refine code_ret ?_ | refine code_exit ?_ | (refine And.intro ?_ ?_) | (intro h; first | exact Bool.noConfusion h | (simp at h; done) | simp at h | skip) | refine eqv_len_map ?_ | refine eqv_zero ?_ | refine eqv_wrap (by omega) (by omega) ?_ | refine eqv_to _ (set_map rfl rfl) ?_ | refine ⟨_, _, (by first | rfl | assumption), at_map (by assumption), ?_⟩ | refine ⟨_, at_map (by assumption), (by decide), ?_⟩ | refine ⟨_, at_map (by assumption), ?_⟩ | (refine (?_ : _ ≤ 140737488355328); simp [rowsLen] <;> omega) | (refine (?_ : _ ≤ 9223372036854775807); simp [rowsLen] <;> omega) | (refine (?_ : _ = rowsLen _); simp [rowsLen] <;> omega) | refine eqv_to _ (app_row rfl) (eqv_to _ app_len ?_) | refine eqv_to _ (app_first rfl) (eqv_to 1 rfl ?_) | refine idx_sl (at_map (by assumption)) (by omega) ?_ | refine idx_ms _ (by first | rfl | assumption) (by first | assumption | omega) ?_ | fail)
  all_goals try
    have hwu : u + arcCo n.es a < w := by assumption
    refine ⟨(i + 1, ↑(arcTo n.es a), far.set (arcTo n.es a) (u + arcCo n.es a), b.set (arcTo n.es a) i), ⟨by dsimp only; omega, _, _, _, hrl hwu, .inr ⟨arcTo n.es a, q2, rfl, by simp⟩⟩, by dsimp only; omega, ⟨[0, 1, 2, 3], rfl, rfl, And.intro rfl (And.intro rfl (And.intro rfl (And.intro rfl trivial))), rfl, rfl, rfl, rfl, rfl, rfl, rfl, rfl, trivial⟩⟩
  all_goals try
    have hwu : w ≤ u + arcCo n.es a := by assumption
    refine ⟨(i + 1, last, far, b), ⟨by dsimp only; omega, st, T, τ, hsk hwu, ?_⟩, by dsimp only; omega, ⟨[0, 1, 2, 3], rfl, rfl, And.intro rfl (And.intro rfl (And.intro rfl (And.intro rfl trivial))), rfl, rfl, rfl, rfl, rfl, rfl, rfl, rfl, trivial⟩⟩
    rcases hlast with ⟨l1, l2⟩ | l3
    · refine .inl ⟨l1, fun j a' hj hja => ?_⟩
      rcases Nat.lt_succ_iff_lt_or_eq.1 hj with k | k
      · exact l2 j a' k hja
      · subst k; rw [ha] at hja; injection hja with hja; subst hja; rw [hu, hw]; exact hwu
    · exact .inr l3
  all_goals try
    have hln : last < 0 := by assumption
    have eL : i = L.length := by omega
    subst eL
    rcases hlast with ⟨l1, l2⟩ | ⟨v, _, l3, _⟩
    · refine ret_obj [0] [iO f] rfl rfl (And.intro rfl trivial) (r' := .pv (.val (.slice none 0 0))) rfl ⟨encRs n.es f [], ALe.pv PLe.nil, [], rfl, rfl, .inl ⟨rfl, far, fun a ha hr => ?_⟩⟩
      obtain ⟨j, hj⟩ := List.getElem?_of_mem ((hmem a).2 ⟨ha, hr⟩)
      have := l2 j a (List.getElem?_eq_some_iff.1 hj).1 hj
      dsimp only
      omega
    · omega
  all_goals try
    have hln : 0 ≤ last := by assumption
    have eL : i = L.length := by omega
    subst eL
    refine ⟨(ρ + 1, last, far, b), ⟨by dsimp only; omega, st, T, τ, hB.round, .inr ?_⟩, by dsimp only; omega, ⟨[0, 1, 2, 3], rfl, rfl, And.intro rfl (And.intro rfl (And.intro rfl (And.intro rfl trivial))), rfl, rfl, rfl, rfl, rfl, rfl, rfl, trivial⟩⟩
    rcases hlast with ⟨l1, l2⟩ | ⟨v, l2, l3, l4⟩
    · omega
    · exact ⟨v, l2, l3, l4⟩
  all_goals
    obtain ⟨v0, hv0, hlv, hst0⟩ : ∃ v : Nat, v < N ∧ last = v ∧ N < st v := by
      rcases hlast with ⟨l1, l2⟩ | ⟨v, l2, l3, l4⟩
      · omega
      · exact ⟨v, l2, l3, by omega⟩
    subst hlv
    clear hlast
    obtain ⟨c1, c2, p, c3, c4, c5, c6⟩ := hB.circle (fun a ha => (hends a ha).1) hv0 hst0
    have hbl := hB.lb
    refine code_loop (fun i : Nat => SC n N f L [(11, vint .i64 i), (8, vint .i64 (iter n.es L b i v0)), (7, .ms 3 1 0 N), (6, .ms 2 1 0 N)] [iO far, iO b]) (fun i => i ≤ N) (fun i => N - i)
      ⟨0, Nat.zero_le _, ⟨[0, 1, 2, 3], rfl, rfl, And.intro rfl (And.intro rfl (And.intro rfl (And.intro rfl trivial))), rfl, rfl, rfl, rfl, rfl, rfl, rfl, trivial⟩⟩ ?_
    intro i hi
    dsimp only [SC]
    repeat' (first | (exact (rfl : allOne _ = true)) | exact trivial | (refine (?_ : _ ≠ _); omega) | (refine (?_ : srcLen _ = rowsLen _); rfl) | (intro h; exact absurd h (Nat.succ_ne_zero _)) | (intro h; exact absurd h (Nat.not_lt_zero _))  | (exact (Nat.le_of_ble_eq_true rfl)) | (exact (by kernel_rfl : drawOk _ _ = true)) | refine ops_cons ?_ | refine ops_nil ?_ | refine opsD_cons ?_ | refine opsD_nil ?_ | refine any_step ?_ | refine any_nil ?_ | refine code_seq ?_ | refine code_region ?_ | refine code_cond ?_ | refine code_block ?_ | refine code_scope ?_ | refine code_skip ?_ | refine code_ret ?_ | refine code_exit ?_ | (refine And.intro ?_ ?_) | (intro h; first | exact Bool.noConfusion h | (simp at h; done) | simp at h | skip) | refine eqv_len_map ?_ | refine eqv_zero ?_ | refine eqv_wrap (by omega) (by omega) ?_ | refine eqv_to _ (set_map rfl rfl) ?_ | refine ⟨_, _, (by first | rfl | assumption), at_map (by assumption), ?_⟩ | refine ⟨_, at_map (by assumption), (by decide), ?_⟩ | refine ⟨_, at_map (by assumption), ?_⟩ | (refine (?_ : _ ≤ 140737488355328); simp [rowsLen] <;> omega) | (refine (?_ : _ ≤ 9223372036854775807); simp [rowsLen] <;> omega) | (refine (?_ : _ = rowsLen _); simp [rowsLen] <;> omega) | refine eqv_to _ (app_row rfl) (eqv_to _ app_len ?_) | refine eqv_to _ (app_first rfl) (eqv_to 1 rfl ?_) | refine idx_sl (at_map (by assumption)) (by omega) ?_ | refine idx_ms _ (by first | rfl | assumption) (by first | assumption | omega) ?_ | fail)
  all_goals try
    have hiN : i < N := by omega
    obtain ⟨g1, g2⟩ := c1 i (by omega)
    obtain ⟨k, b1, b2, b3, b4, _⟩ := hB.at (fun a ha => (hends a ha).1) g1 (by omega)
    have hx1 := of_getD (l := b) (i := iter n.es L b i v0) 0 (by omega)
    rw [b1] at hx1
    have hn1 : arcFr n.es (arcAt L b (iter n.es L b i v0)) = iter n.es L b (i + 1) v0 := rfl
    generalize hit : iter n.es L b i v0 = v at *
    repeat' (first | (exact (rfl : allOne _ = true)) | exact trivial | (refine (?_ : _ ≠ _); omega) | (refine (?_ : srcLen _ = rowsLen _); rfl) | (intro h; exact absurd h (Nat.succ_ne_zero _)) | (intro h; exact absurd h (Nat.not_lt_zero _))  | (exact (Nat.le_of_ble_eq_true rfl)) | (exact (by kernel_rfl : drawOk _ _ = true)) | refine ops_cons ?_ | refine ops_nil ?_ | refine opsD_cons ?_ | refine opsD_nil ?_ | refine any_step ?_ | refine any_nil ?_ | refine code_seq ?_ | refine code_region ?_ | refine code_cond ?_ | refine code_block ?_ | refine code_scope ?_ | refine code_skip ?_ | refine code_ret ?_ | refine code_exit ?_ | (refine And.intro ?_ ?_) | (intro h; first | exact Bool.noConfusion h | (simp at h; done) | simp at h | skip) | refine eqv_len_map ?_ | refine eqv_zero ?_ | refine eqv_wrap (by omega) (by omega) ?_ | refine eqv_to _ (set_map rfl rfl) ?_ | refine ⟨_, _, (by first | rfl | assumption), at_map (by assumption), ?_⟩ | refine ⟨_, at_map (by assumption), (by decide), ?_⟩ | refine ⟨_, at_map (by assumption), ?_⟩ | (refine (?_ : _ ≤ 140737488355328); simp [rowsLen] <;> omega) | (refine (?_ : _ ≤ 9223372036854775807); simp [rowsLen] <;> omega) | (refine (?_ : _ = rowsLen _); simp [rowsLen] <;> omega) | refine eqv_to _ (app_row rfl) (eqv_to _ app_len ?_) | refine eqv_to _ (app_first rfl) (eqv_to 1 rfl ?_) | refine idx_sl (at_map (by assumption)) (by omega) ?_ | refine idx_ms _ (by first | rfl | assumption) (by first | assumption | omega) ?_ | fail)
    exact ⟨i + 1, by omega, by omega, ⟨[0, 1, 2, 3], rfl, rfl, And.intro rfl (And.intro rfl (And.intro rfl (And.intro rfl trivial))), rfl, slot_eq rfl (congrArg (fun x : Nat => vint .i64 x) hn1), rfl, rfl, rfl, rfl, rfl, trivial⟩⟩
  all_goals
    have eN : N = i := by omega
    subst eN
    obtain ⟨r1, r2, r3, r4⟩ := hB.cycle (fun a ha => (hends a ha).1) c2 c3 c5 c6
    generalize hw0 : iter n.es L b N v0 = w at *
    have hcirc : CircS n f (back n.es L b w p) := ⟨fun e => by have := back_len (es := n.es) (L := L) (b := b) w p; rw [e] at this; simp at this; omega, ⟨w, r1⟩, r2, r3, by rw [back_len]; omega, fun a ha => (hmem a).1 (r4 a ha)⟩
    refine code_loop (fun X : Nat × List Arc => SC n N f L [(13, vint .i64 (iter n.es L b X.1 w)), (12, slR 4 n.es f X.2), (8, vint .i64 w), (7, .ms 3 1 0 N), (6, .ms 2 1 0 N)] [iO far, iO b, obR n.es f X.2]) (fun X => X.1 ≤ p ∧ X.2 = back n.es L b w X.1) (fun X => p - X.1)
      ⟨(0, []), ⟨Nat.zero_le _, rfl⟩, ⟨[0, 1, 2, 3, 4], rfl, rfl, And.intro rfl (And.intro rfl (And.intro rfl (And.intro rfl trivial))), rfl, rfl, rfl, rfl, rfl, rfl, rfl, rfl, trivial⟩⟩ ?_
    rintro ⟨j, P1⟩ ⟨hj, hP1⟩
    dsimp only [SC] at hj hP1 ⊢
    have hpl := back_len (es := n.es) (L := L) (b := b) w j
    rw [← hP1] at hpl
    have hbk : back n.es L b w (j + 1) = P1 ++ [arcAt L b (iter n.es L b j w)] := by rw [hP1]; rfl
    obtain ⟨g1, g2⟩ := c2 j
    obtain ⟨k, b1, b2, b3, b4, _⟩ := hB.at (fun a ha => (hends a ha).1) g1 g2
    have hx1 := of_getD (l := b) (i := iter n.es L b j w) 0 (by omega)
    rw [b1] at hx1
    have hn1 : arcFr n.es (arcAt L b (iter n.es L b j w)) = iter n.es L b (j + 1) w := rfl
    have hj0 : j ≠ 0 → iter n.es L b j w = w → j = p := fun h1 h2 => by
      apply Classical.byContradiction
      intro h3
      exact c6 j (by omega) (by omega) h2
    have hjp : j = p → iter n.es L b j w = w := fun e => by rw [e]; exact c5
    generalize hit : iter n.es L b j w = v at *
    generalize hat : arcAt L b v = a at *
    rcases P1 with _ | ⟨a1, P1⟩
    all_goals
      simp only [List.length_cons, List.length_nil] at hpl
      repeat' (first | (exact (rfl : allOne _ = true)) | exact trivial | (refine (?_ : _ ≠ _); omega) | (refine (?_ : srcLen _ = rowsLen _); rfl) | (intro h; exact absurd h (Nat.succ_ne_zero _)) | (intro h; exact absurd h (Nat.not_lt_zero _))  | (exact (Nat.le_of_ble_eq_true rfl)) | (exact (by kernel_rfl : drawOk _ _ = true)) | refine ops_cons ?_ | refine ops_nil ?_ | refine opsD_cons ?_ | refine opsD_nil ?_ | refine any_step ?_ | refine any_nil ?_ | refine code_seq ?_ | refine code_region ?_ | refine code_cond ?_ | refine code_block ?_ | refine code_scope ?_ | refine code_skip ?_ | refine code_ret ?_ | refine code_exit ?_ | (refine And.intro ?_ ?_) | (intro h; first | exact Bool.noConfusion h | (simp at h; done) | simp at h | skip) | refine eqv_len_map ?_ | refine eqv_zero ?_ | refine eqv_wrap (by omega) (by omega) ?_ | refine eqv_to _ (set_map rfl rfl) ?_ | refine ⟨_, _, (by first | rfl | assumption), at_map (by assumption), ?_⟩ | refine ⟨_, at_map (by assumption), (by decide), ?_⟩ | refine ⟨_, at_map (by assumption), ?_⟩ | (refine (?_ : _ ≤ 140737488355328); simp [rowsLen] <;> omega) | (refine (?_ : _ ≤ 9223372036854775807); simp [rowsLen] <;> omega) | (refine (?_ : _ = rowsLen _); simp [rowsLen] <;> omega) | refine eqv_to _ (app_row rfl) (eqv_to _ app_len ?_) | refine idx_sl (at_map (by assumption)) (by omega) ?_ | refine idx_ms _ (by first | rfl | assumption) (by first | assumption | omega) ?_ | fail)
  all_goals try
    refine eqv_to (.p (([a] : List Arc).map (encR n.es f))) rfl (eqv_to 1 rfl ?_)
    repeat' (first | (exact (rfl : allOne _ = true)) | exact trivial | (refine (?_ : _ ≠ _); omega) | (refine (?_ : srcLen _ = rowsLen _); rfl) | (intro h; exact absurd h (Nat.succ_ne_zero _)) | (intro h; exact absurd h (Nat.not_lt_zero _))  | (exact (Nat.le_of_ble_eq_true rfl)) | (exact (by kernel_rfl : drawOk _ _ = true)) | refine ops_cons ?_ | refine ops_nil ?_ | refine opsD_cons ?_ | refine opsD_nil ?_ | refine any_step ?_ | refine any_nil ?_ | refine code_seq ?_ | refine code_region ?_ | refine code_cond ?_ | refine code_block ?_ | refine code_scope ?_ | refine code_skip ?_ | refine code_ret ?_ | refine code_exit ?_ | (refine And.intro ?_ ?_) | (intro h; first | exact Bool.noConfusion h | (simp at h; done) | simp at h | skip) | refine eqv_len_map ?_ | refine eqv_zero ?_ | refine eqv_wrap (by omega) (by omega) ?_ | refine eqv_to _ (set_map rfl rfl) ?_ | refine ⟨_, _, (by first | rfl | assumption), at_map (by assumption), ?_⟩ | refine ⟨_, at_map (by assumption), (by decide), ?_⟩ | refine ⟨_, at_map (by assumption), ?_⟩ | (refine (?_ : _ ≤ 140737488355328); simp [rowsLen] <;> omega) | (refine (?_ : _ ≤ 9223372036854775807); simp [rowsLen] <;> omega) | (refine (?_ : _ = rowsLen _); simp [rowsLen] <;> omega) | refine eqv_to _ (app_row rfl) (eqv_to _ app_len ?_) | refine idx_sl (at_map (by assumption)) (by omega) ?_ | refine idx_ms _ (by first | rfl | assumption) (by first | assumption | omega) ?_ | fail)
    exact ⟨(j + 1, [a]), ⟨by dsimp only; omega, hbk.symm⟩, by dsimp only; omega, ⟨[0, 1, 2, 3, 6], rfl, rfl, And.intro rfl (And.intro rfl (And.intro rfl (And.intro rfl (And.intro rfl trivial)))), slot_eq rfl (congrArg (fun x : Nat => vint .i64 x) hn1), rfl, rfl, rfl, rfl, rfl, rfl, rfl, trivial⟩⟩
  all_goals try
    have hvw : ¬ v = w := by omega
    have hjp2 : j ≠ p := fun e => hvw (hjp e)
    exact ⟨(j + 1, (a1 :: P1) ++ [a]), ⟨by dsimp only; omega, hbk.symm⟩, by dsimp only; omega, ⟨[0, 1, 2, 3, 6], rfl, rfl, And.intro rfl (And.intro rfl (And.intro rfl (And.intro rfl (And.intro rfl trivial)))), slot_eq rfl (congrArg (fun x : Nat => vint .i64 x) hn1), rfl, rfl, rfl, rfl, rfl, rfl, rfl, trivial⟩⟩
  all_goals
    have hvw : v = w := by omega
    have ejp := hj0 (by omega) hvw
    rw [ejp] at hP1
    refine ret_conv [0] [iO f] rfl rfl (And.intro rfl trivial) rfl (by show 0 + _ ≤ List.length _; simp) rfl ⟨encRs n.es f (back n.es L b w p), ?_, _, rfl, rfl, .inr hcirc⟩
    rw [List.drop_zero, List.take_of_length_le (by simp), hP1]
    exact ALe.refl

theorem c_cycle {n : Net} {N : Nat} {A : List (List Arc)} {f : List Int} (g : GOk n N A) (hf : FOk n f) (hN1 : 1 ≤ N) :
    ACall Try.prog 36 [encN n, .ms 0 1 0 n.es.length] [iO f] (fun r H' => ∃ P, r = encRs n.es f P ∧ H' = [iO f] ∧ ((P.length = 0 ∧ PotS n N f) ∨ CircS n f P)) :=
  (c_cycle0 g hf hN1).weak fun _ _ h => h
end Go.Proofs.Ytlhakdmenohdnaa.Cw

/-
  The contract of the reference's least cost.
-/
namespace Go.Proofs.Ytlhakdmenohdnaa.Cw
open Go.Cw Go.Proofs
set_option linter.unusedVariables false
set_option maxRecDepth 100000
set_option maxHeartbeats 4000000

section
variable {n : Net} {N : Nat} {A : List (List Arc)} {f : List Int}

theorem ls_ok (g : GOk n N A) : FOk n (n.es.map (·.ls)) := by
  have hg : ∀ i e, n.es[i]? = some e → (n.es.map (·.ls)).getD i 0 = e.ls := fun i e h => by rw [List.getD_eq_getElem?_getD, List.getElem?_map, h]; rfl
  refine ⟨by simp, fun a ha => ?_, fun i hi => ?_⟩
  · obtain ⟨e, he, _, _, _, _, h5, h6, h7, _⟩ := g.edge ha
    have hx := hg _ _ he
    simp only [arcRoom, he, hx]
    split <;> omega
  · obtain ⟨e, he, _, _, _, _, h5, h6, h7, _⟩ := g.edge hi
    rw [hg _ _ he]; omega

theorem sums_move {z z' : EF} {v r : Nat} {k : Int} (h : ∀ y : Nat, exc z' y = exc z y + (if v = y then k else 0) - (if r = y then k else 0)) (hv : v < N) (hr : r < N) (hne : v ≠ r) :
    ((sumsOf N z).set r (exc z r - k)).set v (exc z v + k) = sumsOf N z' := by
  apply List.ext_getElem?
  intro j
  rw [List.getElem?_set, List.getElem?_set, List.length_set]
  have hl : (sumsOf N z).length = N := by simp [sumsOf]
  rw [hl]
  by_cases hj : j < N
  · rw [sums_get hj, sums_get hj, h j]
    by_cases e1 : v = j
    · subst e1
      rw [if_pos rfl, if_pos hv, if_pos rfl, if_neg (fun e => hne e.symm)]
      congr 1; omega
    · rw [if_neg e1, if_neg e1]
      by_cases e2 : r = j
      · subst e2; rw [if_pos rfl, if_pos hr, if_pos rfl]; congr 1; omega
      · rw [if_neg e2, if_neg e2]; congr 1; omega
  · rw [List.getElem?_eq_none (l := sumsOf N z') (by simp [sumsOf]; omega), List.getElem?_eq_none (l := sumsOf N z) (by omega)]
    rw [if_neg (by omega), if_neg (by omega)]

theorem chain_ends {es : List Edge} : ∀ {P : List Arc} {v r : Nat}, Chain es v P r → P ≠ [] → (∃ a, P[0]? = some a ∧ arcTo es a = v) ∧ ∃ a, P[P.length - 1]? = some a ∧ arcFr es a = r
  | [], _, _, _, h => absurd rfl h
  | [a], v, r, h, _ => ⟨⟨a, rfl, h.1⟩, a, rfl, h.2⟩
  | a :: c :: P, v, r, h, _ => by
    obtain ⟨_, a', h1, h2⟩ := chain_ends h.2 (by simp)
    exact ⟨⟨a, rfl, h.1⟩, a', by simpa using h1, h2⟩

theorem FOk.bal (hv : validR n = 0) (g : GOk n N A) (hf : FOk n f) (h : ∀ v : Nat, v < N → exc (n.es.zip f) v = 0) : balB n f = true := bal_le hv g hf fun v hv => by rw [h v hv]; exact Int.le_refl _

theorem FOk.cost (hv : validR n = 0) (hf : FOk n f) : -8589934592000 ≤ costZ (n.es.zip f) := by
  obtain ⟨v1, v2, v3, v4⟩ := valid_spec hv
  have := cost_bound (n.es.zip f) fun x hx => by
    obtain ⟨i, h1, h2⟩ := hf.zip hx
    have h3 := v4 x.1 (List.mem_of_getElem? h1)
    have h4 := hf.flow i (List.getElem?_eq_some_iff.1 h1).1
    simp [soundB] at h3
    simp only [okEF]; omega
  have hl : (n.es.zip f).length ≤ 8192 := by simp; omega
  omega

theorem chain_sums {P : List Arc} {v r : Nat} {k : Int} (g : GOk n N A) (hf : FOk n f) (h0 : 0 ≤ k) (hP : ∀ a ∈ P, a.1 < n.es.length ∧ k ≤ arcRoom n.es f a) (hd : (P.map (·.1)).Nodup) (hc : Chain n.es v P r) :
    FOk n (pushAll f P k) ∧ costZ (n.es.zip (pushAll f P k)) = costZ (n.es.zip f) + sumCo n.es P * k ∧ ∀ y : Nat, exc (n.es.zip (pushAll f P k)) y = exc (n.es.zip f) y + (if v = y then k else 0) - (if r = y then k else 0) := by
  obtain ⟨h1, h2, h3⟩ := pushAll_ok g h0 hf hP hd
  exact ⟨h1, h2, h3 v r hc⟩
end

def LeastR (n : Net) (k : Int) (ok : Bool) : Prop := (ok = false ∧ ∀ l, balB n l = false) ∨ (ok = true ∧ ∃ f, balB n f = true ∧ k = costZ (n.es.zip f) ∧ ∀ x, balB n x = true → k ≤ costZ (n.es.zip x))

theorem c_least {n : Net} (hv : validR n = 0) : PCall Try.prog 20 [encN n] (fun r => ∃ k ok, r = .tup [vint .i64 k, vbool ok] ∧ LeastR n k ok) := by
  obtain ⟨v1, v2, v3, v4⟩ := valid_spec hv
  obtain ⟨N, A, g, hgn, hN1⟩ := gok_ex hv
  have hN := g.len
  refine acall_of tok mixed 128 rfl (fn := Try.f20) (c := Try.f20.body.getD .skip) (by kernel_rfl) (by kernel_rfl) (by kernel_rfl) rfl 0 rfl ?_
  repeat' (first | (exact (rfl : allOne _ = true)) | exact trivial | (refine (?_ : _ ≠ _); omega) | (refine (?_ : srcLen _ = rowsLen _); rfl) | (intro h; exact absurd h (Nat.succ_ne_zero _)) | (intro h; exact absurd h (Nat.not_lt_zero _))  | (exact (Nat.le_of_ble_eq_true rfl)) | (exact (by kernel_rfl : drawOk _ _ = true)) | refine ops_cons ?_ | refine ops_nil ?_ | refine opsD_cons ?_ | refine opsD_nil ?_ | refine any_step ?_ | refine any_nil ?_ | refine code_seq ?_ | refine code_region ?_ | refine code_cond ?_ | refine code_block ?_ | refine code_scope ?_ | refine code_skip ?_ | refine code_ret ?_ | refine code_exit ?_ | (refine And.intro ?_ ?_) | (intro h; first | exact Bool.noConfusion h | (simp at h; done) | simp at h | skip) | refine eqv_len_map ?_ | refine eqv_zero ?_ | refine eqv_wrap (by omega) (by omega) ?_ | refine eqv_to _ (set_map rfl rfl) ?_ | refine ⟨_, _, (by first | rfl | assumption), at_map (by assumption), ?_⟩ | refine ⟨_, at_map (by assumption), (by decide), ?_⟩ | refine ⟨_, at_map (by assumption), ?_⟩ | (refine (?_ : _ ≤ 140737488355328); simp [rowsLen] <;> omega) | (refine (?_ : _ ≤ 9223372036854775807); simp [rowsLen] <;> omega) | (refine (?_ : _ = rowsLen _); simp [rowsLen] <;> omega) | refine eqv_to _ (app_row rfl) (eqv_to _ app_len ?_) | refine eqv_to _ (app_first rfl) (eqv_to 1 rfl ?_) | refine idx_sl (at_map (by assumption)) (by omega) ?_ | refine idx_ms _ (by first | rfl | assumption) (by first | assumption | omega) ?_ | fail)
  change vcFun _ _ _ _ _; refine call_eq rfl (by repeat' (first | trivial | refine And.intro ?_ ?_)) ALeL.refl (c_rvalid n) rfl ?_
  repeat' (first | (exact (rfl : allOne _ = true)) | exact trivial | (refine (?_ : _ ≠ _); omega) | (refine (?_ : srcLen _ = rowsLen _); rfl) | (intro h; exact absurd h (Nat.succ_ne_zero _)) | (intro h; exact absurd h (Nat.not_lt_zero _))  | (exact (Nat.le_of_ble_eq_true rfl)) | (exact (by kernel_rfl : drawOk _ _ = true)) | refine ops_cons ?_ | refine ops_nil ?_ | refine opsD_cons ?_ | refine opsD_nil ?_ | refine any_step ?_ | refine any_nil ?_ | refine code_seq ?_ | refine code_region ?_ | refine code_cond ?_ | refine code_block ?_ | refine code_scope ?_ | refine code_skip ?_ | refine code_ret ?_ | refine code_exit ?_ | (refine And.intro ?_ ?_) | (intro h; first | exact Bool.noConfusion h | (simp at h; done) | simp at h | skip) | refine eqv_len_map ?_ | refine eqv_zero ?_ | refine eqv_wrap (by omega) (by omega) ?_ | refine eqv_to _ (set_map rfl rfl) ?_ | refine ⟨_, _, (by first | rfl | assumption), at_map (by assumption), ?_⟩ | refine ⟨_, at_map (by assumption), (by decide), ?_⟩ | refine ⟨_, at_map (by assumption), ?_⟩ | (refine (?_ : _ ≤ 140737488355328); simp [rowsLen] <;> omega) | (refine (?_ : _ ≤ 9223372036854775807); simp [rowsLen] <;> omega) | (refine (?_ : _ = rowsLen _); simp [rowsLen] <;> omega) | refine eqv_to _ (app_row rfl) (eqv_to _ app_len ?_) | refine eqv_to _ (app_first rfl) (eqv_to 1 rfl ?_) | refine idx_sl (at_map (by assumption)) (by omega) ?_ | refine idx_ms _ (by first | rfl | assumption) (by first | assumption | omega) ?_ | fail)
  all_goals first | (exfalso; omega) | skip
  have hls := ls_ok g
  have hlsl : (n.es.map (·.ls)).length = n.es.length := by simp
  have hlg : ∀ (i : Nat) (e : Edge), n.es[i]? = some e → (n.es.map (·.ls))[i]? = some e.ls := fun i e h => by rw [List.getElem?_map, h]; rfl
  generalize (n.es.map (·.ls)) = F at *
  refine ⟨n.es.length, n.es.length, rfl, rfl, Nat.le_refl _, by omega, by omega, eqv_to (encS (fillL F 0 0)) (by rw [fill_zero, hlsl]; simp [encS, ei]) ?_⟩
  repeat' (first | (exact (rfl : allOne _ = true)) | exact trivial | (refine (?_ : _ ≠ _); omega) | (refine (?_ : srcLen _ = rowsLen _); rfl) | (intro h; exact absurd h (Nat.succ_ne_zero _)) | (intro h; exact absurd h (Nat.not_lt_zero _))  | (exact (Nat.le_of_ble_eq_true rfl)) | (exact (by kernel_rfl : drawOk _ _ = true)) | refine ops_cons ?_ | refine ops_nil ?_ | refine opsD_cons ?_ | refine opsD_nil ?_ | refine any_step ?_ | refine any_nil ?_ | refine code_seq ?_ | refine code_region ?_ | refine code_cond ?_ | refine code_block ?_ | refine code_scope ?_ | refine code_skip ?_ | refine code_ret ?_ | refine code_exit ?_ | (refine And.intro ?_ ?_) | (intro h; first | exact Bool.noConfusion h | (simp at h; done) | simp at h | skip) | refine eqv_len_map ?_ | refine eqv_zero ?_ | refine eqv_wrap (by omega) (by omega) ?_ | refine eqv_to _ (set_map rfl rfl) ?_ | refine ⟨_, _, (by first | rfl | assumption), at_map (by assumption), ?_⟩ | refine ⟨_, at_map (by assumption), (by decide), ?_⟩ | refine ⟨_, at_map (by assumption), ?_⟩ | (refine (?_ : _ ≤ 140737488355328); simp [rowsLen] <;> omega) | (refine (?_ : _ ≤ 9223372036854775807); simp [rowsLen] <;> omega) | (refine (?_ : _ = rowsLen _); simp [rowsLen] <;> omega) | refine eqv_to _ (app_row rfl) (eqv_to _ app_len ?_) | refine eqv_to _ (app_first rfl) (eqv_to 1 rfl ?_) | refine idx_sl (at_map (by assumption)) (by omega) ?_ | refine idx_ms _ (by first | rfl | assumption) (by first | assumption | omega) ?_ | fail)
  refine ⟨N, N, hgn, hgn, Nat.le_refl _, by omega, by omega, eqv_to (encS (sumsOf N [])) (sums_nil _) ?_⟩
  repeat' (first | (exact (rfl : allOne _ = true)) | exact trivial | (refine (?_ : _ ≠ _); omega) | (refine (?_ : srcLen _ = rowsLen _); rfl) | (intro h; exact absurd h (Nat.succ_ne_zero _)) | (intro h; exact absurd h (Nat.not_lt_zero _))  | (exact (Nat.le_of_ble_eq_true rfl)) | (exact (by kernel_rfl : drawOk _ _ = true)) | refine ops_cons ?_ | refine ops_nil ?_ | refine opsD_cons ?_ | refine opsD_nil ?_ | refine any_step ?_ | refine any_nil ?_ | refine code_seq ?_ | refine code_region ?_ | refine code_cond ?_ | refine code_block ?_ | refine code_scope ?_ | refine code_skip ?_ | refine code_ret ?_ | refine code_exit ?_ | (refine And.intro ?_ ?_) | (intro h; first | exact Bool.noConfusion h | (simp at h; done) | simp at h | skip) | refine eqv_len_map ?_ | refine eqv_zero ?_ | refine eqv_wrap (by omega) (by omega) ?_ | refine eqv_to _ (set_map rfl rfl) ?_ | refine ⟨_, _, (by first | rfl | assumption), at_map (by assumption), ?_⟩ | refine ⟨_, at_map (by assumption), (by decide), ?_⟩ | refine ⟨_, at_map (by assumption), ?_⟩ | (refine (?_ : _ ≤ 140737488355328); simp [rowsLen] <;> omega) | (refine (?_ : _ ≤ 9223372036854775807); simp [rowsLen] <;> omega) | (refine (?_ : _ = rowsLen _); simp [rowsLen] <;> omega) | refine eqv_to _ (app_row rfl) (eqv_to _ app_len ?_) | refine eqv_to _ (app_first rfl) (eqv_to 1 rfl ?_) | refine idx_sl (at_map (by assumption)) (by omega) ?_ | refine idx_ms _ (by first | rfl | assumption) (by first | assumption | omega) ?_ | fail)
  refine code_loop (fun i : Nat => ⟨[(6, vint .i64 i), (5, .ms 2 1 0 N), (4, .ms 1 1 0 n.es.length), (1, .ptr 0 2 0 0)], [some ⟨24, 2, false, .box [.pv (ei n.nodes), .pv (.sl 5 (n.es.map encE))]⟩, iO (fillL F 0 i), iO (sumsOf N ((n.es.zip F).take i))]⟩)
    (fun i => i ≤ n.es.length) (fun i => n.es.length - i) ⟨0, Nat.zero_le _, ⟨[0, 1, 2], rfl, rfl, And.intro rfl (And.intro rfl (And.intro rfl trivial)), rfl, rfl, rfl, rfl, trivial⟩⟩ ?_
  intro i hi
  repeat' (first | (exact (rfl : allOne _ = true)) | exact trivial | (refine (?_ : _ ≠ _); omega) | (refine (?_ : srcLen _ = rowsLen _); rfl) | (intro h; exact absurd h (Nat.succ_ne_zero _)) | (intro h; exact absurd h (Nat.not_lt_zero _))  | (exact (Nat.le_of_ble_eq_true rfl)) | (exact (by kernel_rfl : drawOk _ _ = true)) | refine ops_cons ?_ | refine ops_nil ?_ | refine opsD_cons ?_ | refine opsD_nil ?_ | refine any_step ?_ | refine any_nil ?_ | refine code_seq ?_ | refine code_region ?_ | refine code_cond ?_ | refine code_block ?_ | refine code_scope ?_ | refine code_skip ?_ | refine code_ret ?_ | refine code_exit ?_ | (refine And.intro ?_ ?_) | (intro h; first | exact Bool.noConfusion h | (simp at h; done) | simp at h | skip) | refine eqv_len_map ?_ | refine eqv_zero ?_ | refine eqv_wrap (by omega) (by omega) ?_ | refine eqv_to _ (set_map rfl rfl) ?_ | refine ⟨_, _, (by first | rfl | assumption), at_map (by assumption), ?_⟩ | refine ⟨_, at_map (by assumption), (by decide), ?_⟩ | refine ⟨_, at_map (by assumption), ?_⟩ | (refine (?_ : _ ≤ 140737488355328); simp [rowsLen] <;> omega) | (refine (?_ : _ ≤ 9223372036854775807); simp [rowsLen] <;> omega) | (refine (?_ : _ = rowsLen _); simp [rowsLen] <;> omega) | refine eqv_to _ (app_row rfl) (eqv_to _ app_len ?_) | refine eqv_to _ (app_first rfl) (eqv_to 1 rfl ?_) | refine idx_sl (at_map (by assumption)) (by omega) ?_ | refine idx_ms _ (by first | rfl | assumption) (by first | assumption | omega) ?_ | fail)
  case' refine_2.refine_2.refine_2.refine_2.refine_1 =>
    obtain ⟨e, he⟩ := getE (show i < n.es.length by assumption)
    have hf := hlg i e he
    obtain ⟨a, b, ha, hb, hak, hbk, hs1, hs2⟩ : ∃ a b : Nat, e.to = ↑a ∧ e.fr = ↑b ∧ a < N ∧ b < N ∧ 0 ≤ e.ls ∧ e.ls ≤ 1000 := by
      have := v4 e (List.mem_of_getElem? he)
      simp [soundB] at this
      exact ⟨e.to.toNat, e.fr.toNat, by omega, by omega, by omega, by omega, by omega, by omega⟩
    have hz : (n.es.zip F).take (i + 1) = (n.es.zip F).take i ++ [(e, e.ls)] := zip_take he hf
    have hbd := exc_bound ((n.es.zip F).take i) (fun x hx => by
      obtain ⟨j, h1, h2⟩ := hls.zip (List.mem_of_mem_take hx)
      rw [h2]; exact hls.flow j (List.getElem?_eq_some_iff.1 h1).1)
    have hlz : ((n.es.zip F).take i).length ≤ 8192 := by simp; omega
    generalize (n.es.zip F).take i = z at *
    have hba := hbd a
    have hbb := hbd b
    have hga : (sumsOf N z)[b]? = some (exc z b) := sums_get hbk
    have hgb := sums_get2 (z := z) (x := exc z b - e.ls) (a := b) hak
    have hst := sums_step' (z := z) (e := e) (f := e.ls) ha hb hak hbk
    rw [hgb, ← hz] at hst
    have hfs := fill_step (d := 0) hf
    have hfg := fill_get (g := F) (d := (0 : Int)) (i := i) (by omega)
    generalize fillL F 0 i = b0 at *
    repeat' (first | (exact (rfl : allOne _ = true)) | exact trivial | (refine (?_ : _ ≠ _); omega) | (refine (?_ : srcLen _ = rowsLen _); rfl) | (intro h; exact absurd h (Nat.succ_ne_zero _)) | (intro h; exact absurd h (Nat.not_lt_zero _))  | (exact (Nat.le_of_ble_eq_true rfl)) | (exact (by kernel_rfl : drawOk _ _ = true)) | refine ops_cons ?_ | refine ops_nil ?_ | refine opsD_cons ?_ | refine opsD_nil ?_ | refine any_step ?_ | refine any_nil ?_ | refine code_seq ?_ | refine code_region ?_ | refine code_cond ?_ | refine code_block ?_ | refine code_scope ?_ | refine code_skip ?_ | refine code_ret ?_ | refine code_exit ?_ | (refine And.intro ?_ ?_) | (intro h; first | exact Bool.noConfusion h | (simp at h; done) | simp at h | skip) | refine eqv_len_map ?_ | refine eqv_zero ?_ | refine eqv_wrap (by omega) (by omega) ?_ | refine eqv_to _ (set_map rfl rfl) ?_ | refine ⟨_, _, (by first | rfl | assumption), at_map (by assumption), ?_⟩ | refine ⟨_, at_map (by assumption), (by decide), ?_⟩ | refine ⟨_, at_map (by assumption), ?_⟩ | (refine (?_ : _ ≤ 140737488355328); simp [rowsLen] <;> omega) | (refine (?_ : _ ≤ 9223372036854775807); simp [rowsLen] <;> omega) | (refine (?_ : _ = rowsLen _); simp [rowsLen] <;> omega) | refine eqv_to _ (app_row rfl) (eqv_to _ app_len ?_) | refine eqv_to _ (app_first rfl) (eqv_to 1 rfl ?_) | refine idx_sl (at_map (by assumption)) (by omega) ?_ | refine idx_ms _ (by first | rfl | assumption) (by first | assumption | omega) ?_ | fail)
    refine ⟨i + 1, by omega, by omega, ⟨[0, 1, 2], rfl, rfl, And.intro rfl (And.intro (by rw [← hfs]; rfl) (And.intro (by rw [← hst]; rfl) trivial)), rfl, rfl, rfl, rfl, trivial⟩⟩
  case' refine_2.refine_2.refine_2.refine_2.refine_2 =>
    have eN : i = n.es.length := by omega
    subst eN
    rw [List.take_of_length_le (show (n.es.zip F).length ≤ n.es.length by simp; omega), show fillL F 0 n.es.length = F by rw [← hlsl]; exact fill_end]
    refine code_loop (fun f : List Int => ⟨[(5, .ms 2 1 0 N), (4, .ms 1 1 0 n.es.length), (1, .ptr 0 2 0 0)], [some ⟨24, 2, false, .box [.pv (ei n.nodes), .pv (.sl 5 (n.es.map encE))]⟩, iO f, iO (sumsOf N (n.es.zip f))]⟩)
      (fun f => FOk n f) (fun f => pot n N f) ⟨F, hls, ⟨[0, 1, 2], rfl, rfl, And.intro rfl (And.intro rfl (And.intro rfl trivial)), rfl, rfl, rfl, trivial⟩⟩ ?_
    clear hlg hlsl hls hi
    intro f hf
    repeat' (first | (exact (rfl : allOne _ = true)) | exact trivial | (refine (?_ : _ ≠ _); omega) | (refine (?_ : srcLen _ = rowsLen _); rfl) | (intro h; exact absurd h (Nat.succ_ne_zero _)) | (intro h; exact absurd h (Nat.not_lt_zero _))  | (exact (Nat.le_of_ble_eq_true rfl)) | (exact (by kernel_rfl : drawOk _ _ = true)) | refine ops_cons ?_ | refine ops_nil ?_ | refine opsD_cons ?_ | refine opsD_nil ?_ | refine any_step ?_ | refine any_nil ?_ | refine code_seq ?_ | refine code_region ?_ | refine code_cond ?_ | refine code_block ?_ | refine code_scope ?_ | refine code_skip ?_ | refine code_ret ?_ | refine code_exit ?_ | (refine And.intro ?_ ?_) | (intro h; first | exact Bool.noConfusion h | (simp at h; done) | simp at h | skip) | refine eqv_len_map ?_ | refine eqv_zero ?_ | refine eqv_wrap (by omega) (by omega) ?_ | refine eqv_to _ (set_map rfl rfl) ?_ | refine ⟨_, _, (by first | rfl | assumption), at_map (by assumption), ?_⟩ | refine ⟨_, at_map (by assumption), (by decide), ?_⟩ | refine ⟨_, at_map (by assumption), ?_⟩ | (refine (?_ : _ ≤ 140737488355328); simp [rowsLen] <;> omega) | (refine (?_ : _ ≤ 9223372036854775807); simp [rowsLen] <;> omega) | (refine (?_ : _ = rowsLen _); simp [rowsLen] <;> omega) | refine eqv_to _ (app_row rfl) (eqv_to _ app_len ?_) | refine eqv_to _ (app_first rfl) (eqv_to 1 rfl ?_) | refine idx_sl (at_map (by assumption)) (by omega) ?_ | refine idx_ms _ (by first | rfl | assumption) (by first | assumption | omega) ?_ | fail)
    refine call_obj [1, 2] [iO f, iO (sumsOf N (n.es.zip f))] [encN n, .ms 0 1 0 n.es.length, .ms 1 1 0 N] rfl ⟨rfl, rfl, trivial⟩ rfl (c_way g hf (by simp [sumsOf])) ?_
    rintro r H' ⟨P, rfl, rfl, hP⟩
    refine ⟨Nat.le_of_ble_eq_true rfl, ?_⟩
    repeat' (first | (exact (rfl : allOne _ = true)) | exact trivial | (refine (?_ : _ ≠ _); omega) | (refine (?_ : srcLen _ = rowsLen _); rfl) | (intro h; exact absurd h (Nat.succ_ne_zero _)) | (intro h; exact absurd h (Nat.not_lt_zero _))  | (exact (Nat.le_of_ble_eq_true rfl)) | (exact (by kernel_rfl : drawOk _ _ = true)) | refine ops_cons ?_ | refine ops_nil ?_ | refine opsD_cons ?_ | refine opsD_nil ?_ | refine any_step ?_ | refine any_nil ?_ | refine code_seq ?_ | refine code_region ?_ | refine code_cond ?_ | refine code_block ?_ | refine code_scope ?_ | refine code_skip ?_ | refine code_ret ?_ | refine code_exit ?_ | (refine And.intro ?_ ?_) | (intro h; first | exact Bool.noConfusion h | (simp at h; done) | simp at h | skip) | refine eqv_len_map ?_ | refine eqv_zero ?_ | refine eqv_wrap (by omega) (by omega) ?_ | refine eqv_to _ (set_map rfl rfl) ?_ | refine ⟨_, _, (by first | rfl | assumption), at_map (by assumption), ?_⟩ | refine ⟨_, at_map (by assumption), (by decide), ?_⟩ | refine ⟨_, at_map (by assumption), ?_⟩ | (refine (?_ : _ ≤ 140737488355328); simp [rowsLen] <;> omega) | (refine (?_ : _ ≤ 9223372036854775807); simp [rowsLen] <;> omega) | (refine (?_ : _ = rowsLen _); simp [rowsLen] <;> omega) | refine eqv_to _ (app_row rfl) (eqv_to _ app_len ?_) | refine eqv_to _ (app_first rfl) (eqv_to 1 rfl ?_) | refine idx_sl (at_map (by assumption)) (by omega) ?_ | refine idx_ms _ (by first | rfl | assumption) (by first | assumption | omega) ?_ | fail)
  case' refine_2.refine_2.refine_2.refine_2.refine_2.refine_2 =>
    have hPn : P ≠ [] := by assumption
    obtain ⟨_, v, r, p1, p2, p3, p4, p5, p6, p7, p8⟩ : PathS n N f (sumsOf N (n.es.zip f)) P := by
      rcases hP with ⟨e, _⟩ | h
      · exact absurd (List.length_eq_zero_iff.1 e) hPn
      · exact h
    clear hP
    have hbd := exc_bound (n.es.zip f) (fun x hx => by
      obtain ⟨j, h1, h2⟩ := hf.zip hx
      rw [h2]; exact hf.flow j (List.getElem?_eq_some_iff.1 h1).1)
    have hlz : (n.es.zip f).length ≤ 8192 := by simp; omega
    have hbv := hbd v
    have hbr := hbd r
    have hxv : (sumsOf N (n.es.zip f))[v]? = some (exc (n.es.zip f) v) := sums_get p1
    have hxr : (sumsOf N (n.es.zip f))[r]? = some (exc (n.es.zip f) r) := sums_get p2
    rw [getD_of hxv] at p3
    rw [getD_of hxr] at p4
    have hvr : v ≠ r := fun e => by subst e; omega
    have hrv : ¬ r = v := fun e => hvr e.symm
    obtain ⟨⟨a, ha, hav⟩, c, hc, hcr⟩ := chain_ends p5 hPn
    have hlen : 1 ≤ P.length := by
      rcases P with _ | ⟨_, _⟩
      · exact absurd rfl hPn
      · simp
    subst hav
    subst hcr
    generalize hxs : sumsOf N (n.es.zip f) = x at *
    have hxl : x.length = N := by rw [← hxs]; simp [sumsOf]
    repeat' (first | (exact (rfl : allOne _ = true)) | exact trivial | (refine (?_ : _ ≠ _); omega) | (refine (?_ : srcLen _ = rowsLen _); rfl) | (intro h; exact absurd h (Nat.succ_ne_zero _)) | (intro h; exact absurd h (Nat.not_lt_zero _))  | (exact (Nat.le_of_ble_eq_true rfl)) | (exact (by kernel_rfl : drawOk _ _ = true)) | refine ops_cons ?_ | refine ops_nil ?_ | refine opsD_cons ?_ | refine opsD_nil ?_ | refine any_step ?_ | refine any_nil ?_ | refine code_seq ?_ | refine code_region ?_ | refine code_cond ?_ | refine code_block ?_ | refine code_scope ?_ | refine code_skip ?_ | refine code_ret ?_ | refine code_exit ?_ | (refine And.intro ?_ ?_) | (intro h; first | exact Bool.noConfusion h | (simp at h; done) | simp at h | skip) | refine eqv_len_map ?_ | refine eqv_zero ?_ | refine eqv_wrap (by omega) (by omega) ?_ | refine eqv_to _ (set_map rfl rfl) ?_ | refine ⟨_, _, (by first | rfl | assumption), at_map (by assumption), ?_⟩ | refine ⟨_, at_map (by assumption), (by decide), ?_⟩ | refine ⟨_, at_map (by assumption), ?_⟩ | (refine (?_ : _ ≤ 140737488355328); simp [rowsLen] <;> omega) | (refine (?_ : _ ≤ 9223372036854775807); simp [rowsLen] <;> omega) | (refine (?_ : _ = rowsLen _); simp [rowsLen] <;> omega) | refine eqv_to _ (app_row rfl) (eqv_to _ app_len ?_) | refine eqv_to _ (app_first rfl) (eqv_to 1 rfl ?_) | refine idx_sl (at_map (by assumption)) (by omega) ?_ | refine idx_ms _ (by first | rfl | assumption) (by first | assumption | omega) ?_ | fail)
    have hm : 0 < (if 0 - exc (n.es.zip f) ↑(arcTo n.es a) < exc (n.es.zip f) ↑(arcFr n.es c) then 0 - exc (n.es.zip f) ↑(arcTo n.es a) else exc (n.es.zip f) ↑(arcFr n.es c)) ∧
        (if 0 - exc (n.es.zip f) ↑(arcTo n.es a) < exc (n.es.zip f) ↑(arcFr n.es c) then 0 - exc (n.es.zip f) ↑(arcTo n.es a) else exc (n.es.zip f) ↑(arcFr n.es c)) ≤ 0 - exc (n.es.zip f) ↑(arcTo n.es a) ∧
        (if 0 - exc (n.es.zip f) ↑(arcTo n.es a) < exc (n.es.zip f) ↑(arcFr n.es c) then 0 - exc (n.es.zip f) ↑(arcTo n.es a) else exc (n.es.zip f) ↑(arcFr n.es c)) ≤ exc (n.es.zip f) ↑(arcFr n.es c) := by
      split <;> omega
    change vcFunD _ _ _ _ _
    generalize hmm : (if 0 - exc (n.es.zip f) ↑(arcTo n.es a) < exc (n.es.zip f) ↑(arcFr n.es c) then 0 - exc (n.es.zip f) ↑(arcTo n.es a) else exc (n.es.zip f) ↑(arcFr n.es c)) = m at *
    refine callD_one (i := 1) rfl (fun _ _ => rfl) [.ms 0 1 0 n.es.length, encRs n.es f P, vint .i64 m] (by rw [← hmm]; rfl) (c_push g hf P m (fun a ha => (p8 a ha).1) p6 p7 (by omega) (by omega)) (fun _ _ => rfl) (fun _ _ => rfl) ?_
    obtain ⟨m1, m2⟩ := minRoom_le n.es f P m
    have m3 := minRoom_pos n.es f P m hm.1 fun a ha => (p8 a ha).2
    generalize minRoom n.es f P m = k at *
    obtain ⟨t1, t2, t3⟩ := chain_sums g hf (by omega) (fun a ha => ⟨(p8 a ha).1, m2 a ha⟩) p6 p5
    have hmv := sums_move t3 p1 p2 hvr
    rw [hxs] at hmv
    have hx4 : (x.set (arcFr n.es c) (exc (n.es.zip f) ↑(arcFr n.es c) - k))[arcTo n.es a]? = some (exc (n.es.zip f) ↑(arcTo n.es a)) := by rw [List.getElem?_set, if_neg hrv]; exact hxv
    repeat' (first | (exact (rfl : allOne _ = true)) | exact trivial | (refine (?_ : _ ≠ _); omega) | (refine (?_ : srcLen _ = rowsLen _); rfl) | (intro h; exact absurd h (Nat.succ_ne_zero _)) | (intro h; exact absurd h (Nat.not_lt_zero _))  | (exact (Nat.le_of_ble_eq_true rfl)) | (exact (by kernel_rfl : drawOk _ _ = true)) | refine ops_cons ?_ | refine ops_nil ?_ | refine opsD_cons ?_ | refine opsD_nil ?_ | refine any_step ?_ | refine any_nil ?_ | refine code_seq ?_ | refine code_region ?_ | refine code_cond ?_ | refine code_block ?_ | refine code_scope ?_ | refine code_skip ?_ | refine code_ret ?_ | refine code_exit ?_ | (refine And.intro ?_ ?_) | (intro h; first | exact Bool.noConfusion h | (simp at h; done) | simp at h | skip) | refine eqv_len_map ?_ | refine eqv_zero ?_ | refine eqv_wrap (by omega) (by omega) ?_ | refine eqv_to _ (set_map rfl rfl) ?_ | refine ⟨_, _, (by first | rfl | assumption), at_map (by assumption), ?_⟩ | refine ⟨_, at_map (by assumption), (by decide), ?_⟩ | refine ⟨_, at_map (by assumption), ?_⟩ | (refine (?_ : _ ≤ 140737488355328); simp [rowsLen] <;> omega) | (refine (?_ : _ ≤ 9223372036854775807); simp [rowsLen] <;> omega) | (refine (?_ : _ = rowsLen _); simp [rowsLen] <;> omega) | refine eqv_to _ (app_row rfl) (eqv_to _ app_len ?_) | refine eqv_to _ (app_first rfl) (eqv_to 1 rfl ?_) | refine idx_sl (at_map (by assumption)) (by omega) ?_ | refine idx_ms _ (by first | rfl | assumption) (by first | assumption | omega) ?_ | fail)
    exact ⟨pushAll f P k, t1, pot_lt p2 hrv m3 t3 (by omega) (by omega), ⟨[0, 1, 2], rfl, rfl, And.intro rfl (And.intro rfl (And.intro (by rw [← hmv]; rfl) trivial)), rfl, rfl, rfl, trivial⟩⟩
  case' refine_2.refine_2.refine_2.refine_2.refine_2.refine_1 =>
    have hPn : P = [] := by assumption
    subst hPn
    have hcut : CutS n N f (sumsOf N (n.es.zip f)) := by
      rcases hP with ⟨_, h⟩ | ⟨h, _⟩
      · exact h
      · exact absurd rfl h
    clear hP
    refine code_loop (fun i : Nat => ⟨[(12, vint .i64 i), (5, .ms 2 1 0 N), (4, .ms 1 1 0 n.es.length), (1, .ptr 0 2 0 0)], [some ⟨24, 2, false, .box [.pv (ei n.nodes), .pv (.sl 5 (n.es.map encE))]⟩, iO f, iO (sumsOf N (n.es.zip f))]⟩)
      (fun i => i ≤ N ∧ ∀ j : Nat, j < i → exc (n.es.zip f) j = 0) (fun i => N - i) ⟨0, ⟨Nat.zero_le _, fun j hj => absurd hj (Nat.not_lt_zero _)⟩, ⟨[0, 1, 2], rfl, rfl, And.intro rfl (And.intro rfl (And.intro rfl trivial)), rfl, rfl, rfl, rfl, trivial⟩⟩ ?_
    rintro i ⟨hi, hz⟩
    dsimp only at hi hz ⊢
    repeat' (first | (exact (rfl : allOne _ = true)) | exact trivial | (refine (?_ : _ ≠ _); omega) | (refine (?_ : srcLen _ = rowsLen _); rfl) | (intro h; exact absurd h (Nat.succ_ne_zero _)) | (intro h; exact absurd h (Nat.not_lt_zero _))  | (exact (Nat.le_of_ble_eq_true rfl)) | (exact (by kernel_rfl : drawOk _ _ = true)) | refine ops_cons ?_ | refine ops_nil ?_ | refine opsD_cons ?_ | refine opsD_nil ?_ | refine any_step ?_ | refine any_nil ?_ | refine code_seq ?_ | refine code_region ?_ | refine code_cond ?_ | refine code_block ?_ | refine code_scope ?_ | refine code_skip ?_ | refine code_ret ?_ | refine code_exit ?_ | (refine And.intro ?_ ?_) | (intro h; first | exact Bool.noConfusion h | (simp at h; done) | simp at h | skip) | refine eqv_len_map ?_ | refine eqv_zero ?_ | refine eqv_wrap (by omega) (by omega) ?_ | refine eqv_to _ (set_map rfl rfl) ?_ | refine ⟨_, _, (by first | rfl | assumption), at_map (by assumption), ?_⟩ | refine ⟨_, at_map (by assumption), (by decide), ?_⟩ | refine ⟨_, at_map (by assumption), ?_⟩ | (refine (?_ : _ ≤ 140737488355328); simp [rowsLen] <;> omega) | (refine (?_ : _ ≤ 9223372036854775807); simp [rowsLen] <;> omega) | (refine (?_ : _ = rowsLen _); simp [rowsLen] <;> omega) | refine eqv_to _ (app_row rfl) (eqv_to _ app_len ?_) | refine eqv_to _ (app_first rfl) (eqv_to 1 rfl ?_) | refine idx_sl (at_map (by assumption)) (by omega) ?_ | refine idx_ms _ (by first | rfl | assumption) (by first | assumption | omega) ?_ | fail)
  all_goals try
    have hiN : i < N := by omega
    have hxi : (sumsOf N (n.es.zip f))[i]? = some (exc (n.es.zip f) i) := sums_get hiN
    repeat' (first | (exact (rfl : allOne _ = true)) | exact trivial | (refine (?_ : _ ≠ _); omega) | (refine (?_ : srcLen _ = rowsLen _); rfl) | (intro h; exact absurd h (Nat.succ_ne_zero _)) | (intro h; exact absurd h (Nat.not_lt_zero _))  | (exact (Nat.le_of_ble_eq_true rfl)) | (exact (by kernel_rfl : drawOk _ _ = true)) | refine ops_cons ?_ | refine ops_nil ?_ | refine opsD_cons ?_ | refine opsD_nil ?_ | refine any_step ?_ | refine any_nil ?_ | refine code_seq ?_ | refine code_region ?_ | refine code_cond ?_ | refine code_block ?_ | refine code_scope ?_ | refine code_skip ?_ | refine code_ret ?_ | refine code_exit ?_ | (refine And.intro ?_ ?_) | (intro h; first | exact Bool.noConfusion h | (simp at h; done) | simp at h | skip) | refine eqv_len_map ?_ | refine eqv_zero ?_ | refine eqv_wrap (by omega) (by omega) ?_ | refine eqv_to _ (set_map rfl rfl) ?_ | refine ⟨_, _, (by first | rfl | assumption), at_map (by assumption), ?_⟩ | refine ⟨_, at_map (by assumption), (by decide), ?_⟩ | refine ⟨_, at_map (by assumption), ?_⟩ | (refine (?_ : _ ≤ 140737488355328); simp [rowsLen] <;> omega) | (refine (?_ : _ ≤ 9223372036854775807); simp [rowsLen] <;> omega) | (refine (?_ : _ = rowsLen _); simp [rowsLen] <;> omega) | refine eqv_to _ (app_row rfl) (eqv_to _ app_len ?_) | refine eqv_to _ (app_first rfl) (eqv_to 1 rfl ?_) | refine idx_sl (at_map (by assumption)) (by omega) ?_ | refine idx_ms _ (by first | rfl | assumption) (by first | assumption | omega) ?_ | fail)
  case' refine_2.refine_2.refine_2.refine_2.refine_2.refine_1.refine_1.refine_1 =>
    have hne : exc (n.es.zip f) i ≠ 0 := by assumption
    obtain ⟨S, s1, s2, s3, s4⟩ := hcut
    have hg : ∀ v, v < N → (sumsOf N (n.es.zip f)).getD v 0 = exc (n.es.zip f) v := fun v hv => getD_of (sums_get hv)
    refine ret_obj [] [] rfl rfl trivial (r' := .tup [vint .i64 0, vbool false]) rfl ⟨rfl, 0, false, rfl, .inl ⟨rfl, fun l => blk_bal (blk_of hv g hf (cut_stuck g hf s1 (fun v hv h => s2 v hv (by rw [hg v hv]; exact h)) (fun v hv h => s3 v hv (by rw [hg v hv]; exact h)) s4 ⟨i, hiN, hne⟩))⟩⟩
  case' refine_2.refine_2.refine_2.refine_2.refine_2.refine_1.refine_1.refine_2 =>
    have h0 : exc (n.es.zip f) i = 0 := by assumption
    refine ⟨i + 1, ⟨by omega, fun j hj => ?_⟩, by omega, ⟨[0, 1, 2], rfl, rfl, And.intro rfl (And.intro rfl (And.intro rfl trivial)), rfl, rfl, rfl, rfl, trivial⟩⟩
    rcases Nat.lt_succ_iff_lt_or_eq.1 hj with k | k
    · exact hz j k
    · subst k; exact h0
  case' refine_2.refine_2.refine_2.refine_2.refine_2.refine_1.refine_2 =>
    have hbal : balB n f = true := hf.bal hv g fun v hvN => hz v (by omega)
    refine code_loop (fun f : List Int => ⟨[(4, .ms 1 1 0 n.es.length), (1, .ptr 0 2 0 0)], [some ⟨24, 2, false, .box [.pv (ei n.nodes), .pv (.sl 5 (n.es.map encE))]⟩, iO f]⟩)
      (fun f => FOk n f ∧ balB n f = true) (fun f => (costZ (n.es.zip f) + 8589934592000).toNat) ⟨f, ⟨hf, hbal⟩, ⟨[0, 1], rfl, rfl, And.intro rfl (And.intro rfl trivial), rfl, rfl, trivial⟩⟩ ?_
    clear hcut hz hi hf hbal
    rintro f ⟨hf, hbal⟩
    repeat' (first | (exact (rfl : allOne _ = true)) | exact trivial | (refine (?_ : _ ≠ _); omega) | (refine (?_ : srcLen _ = rowsLen _); rfl) | (intro h; exact absurd h (Nat.succ_ne_zero _)) | (intro h; exact absurd h (Nat.not_lt_zero _))  | (exact (Nat.le_of_ble_eq_true rfl)) | (exact (by kernel_rfl : drawOk _ _ = true)) | refine ops_cons ?_ | refine ops_nil ?_ | refine opsD_cons ?_ | refine opsD_nil ?_ | refine any_step ?_ | refine any_nil ?_ | refine code_seq ?_ | refine code_region ?_ | refine code_cond ?_ | refine code_block ?_ | refine code_scope ?_ | refine code_skip ?_ | refine code_ret ?_ | refine code_exit ?_ | (refine And.intro ?_ ?_) | (intro h; first | exact Bool.noConfusion h | (simp at h; done) | simp at h | skip) | refine eqv_len_map ?_ | refine eqv_zero ?_ | refine eqv_wrap (by omega) (by omega) ?_ | refine eqv_to _ (set_map rfl rfl) ?_ | refine ⟨_, _, (by first | rfl | assumption), at_map (by assumption), ?_⟩ | refine ⟨_, at_map (by assumption), (by decide), ?_⟩ | refine ⟨_, at_map (by assumption), ?_⟩ | (refine (?_ : _ ≤ 140737488355328); simp [rowsLen] <;> omega) | (refine (?_ : _ ≤ 9223372036854775807); simp [rowsLen] <;> omega) | (refine (?_ : _ = rowsLen _); simp [rowsLen] <;> omega) | refine eqv_to _ (app_row rfl) (eqv_to _ app_len ?_) | refine eqv_to _ (app_first rfl) (eqv_to 1 rfl ?_) | refine idx_sl (at_map (by assumption)) (by omega) ?_ | refine idx_ms _ (by first | rfl | assumption) (by first | assumption | omega) ?_ | fail)
    refine call_obj [1] [iO f] [encN n, .ms 0 1 0 n.es.length] rfl ⟨rfl, trivial⟩ rfl (c_cycle g hf hN1) ?_
    rintro r H' ⟨P, rfl, rfl, hP⟩
    refine ⟨Nat.le_of_ble_eq_true rfl, ?_⟩
    repeat' (first | (exact (rfl : allOne _ = true)) | exact trivial | (refine (?_ : _ ≠ _); omega) | (refine (?_ : srcLen _ = rowsLen _); rfl) | (intro h; exact absurd h (Nat.succ_ne_zero _)) | (intro h; exact absurd h (Nat.not_lt_zero _))  | (exact (Nat.le_of_ble_eq_true rfl)) | (exact (by kernel_rfl : drawOk _ _ = true)) | refine ops_cons ?_ | refine ops_nil ?_ | refine opsD_cons ?_ | refine opsD_nil ?_ | refine any_step ?_ | refine any_nil ?_ | refine code_seq ?_ | refine code_region ?_ | refine code_cond ?_ | refine code_block ?_ | refine code_scope ?_ | refine code_skip ?_ | refine code_ret ?_ | refine code_exit ?_ | (refine And.intro ?_ ?_) | (intro h; first | exact Bool.noConfusion h | (simp at h; done) | simp at h | skip) | refine eqv_len_map ?_ | refine eqv_zero ?_ | refine eqv_wrap (by omega) (by omega) ?_ | refine eqv_to _ (set_map rfl rfl) ?_ | refine ⟨_, _, (by first | rfl | assumption), at_map (by assumption), ?_⟩ | refine ⟨_, at_map (by assumption), (by decide), ?_⟩ | refine ⟨_, at_map (by assumption), ?_⟩ | (refine (?_ : _ ≤ 140737488355328); simp [rowsLen] <;> omega) | (refine (?_ : _ ≤ 9223372036854775807); simp [rowsLen] <;> omega) | (refine (?_ : _ = rowsLen _); simp [rowsLen] <;> omega) | refine eqv_to _ (app_row rfl) (eqv_to _ app_len ?_) | refine eqv_to _ (app_first rfl) (eqv_to 1 rfl ?_) | refine idx_sl (at_map (by assumption)) (by omega) ?_ | refine idx_ms _ (by first | rfl | assumption) (by first | assumption | omega) ?_ | fail)
  case' refine_2.refine_2.refine_2.refine_2.refine_2.refine_1.refine_2.refine_1 =>
    have hPn : P = [] := by assumption
    subst hPn
    have hc := c_rcost n f
    simp only [costR, hbal, if_true] at hc
    have hpot : PotS n N f := by
      rcases hP with ⟨_, h⟩ | ⟨h, _⟩
      · exact h
      · exact absurd rfl h
    obtain ⟨q, hq⟩ := hpot
    have hlef : ALe (.pv (.sl 1 (((List.map (fun x => [ei x]) f).drop 0).take n.es.length))) (encI f) := by
      rw [List.drop_zero, List.take_of_length_le (by rw [List.length_map, hf.len]; exact Nat.le_refl _)]
      exact ALe.refl
    change vcFun _ _ _ _ _
    refine call_eq rfl ⟨trivial, by show 0 + _ ≤ List.length _; simp [hf.len], trivial⟩ (show ALeL _ [encN n, encI f] from And.intro ALe.refl (And.intro hlef trivial)) hc rfl ?_
    repeat' (first | (exact (rfl : allOne _ = true)) | exact trivial | (refine (?_ : _ ≠ _); omega) | (refine (?_ : srcLen _ = rowsLen _); rfl) | (intro h; exact absurd h (Nat.succ_ne_zero _)) | (intro h; exact absurd h (Nat.not_lt_zero _))  | (exact (Nat.le_of_ble_eq_true rfl)) | (exact (by kernel_rfl : drawOk _ _ = true)) | refine ops_cons ?_ | refine ops_nil ?_ | refine opsD_cons ?_ | refine opsD_nil ?_ | refine any_step ?_ | refine any_nil ?_ | refine code_seq ?_ | refine code_region ?_ | refine code_cond ?_ | refine code_block ?_ | refine code_scope ?_ | refine code_skip ?_ | refine code_ret ?_ | refine code_exit ?_ | (refine And.intro ?_ ?_) | (intro h; first | exact Bool.noConfusion h | (simp at h; done) | simp at h | skip) | refine eqv_len_map ?_ | refine eqv_zero ?_ | refine eqv_wrap (by omega) (by omega) ?_ | refine eqv_to _ (set_map rfl rfl) ?_ | refine ⟨_, _, (by first | rfl | assumption), at_map (by assumption), ?_⟩ | refine ⟨_, at_map (by assumption), (by decide), ?_⟩ | refine ⟨_, at_map (by assumption), ?_⟩ | (refine (?_ : _ ≤ 140737488355328); simp [rowsLen] <;> omega) | (refine (?_ : _ ≤ 9223372036854775807); simp [rowsLen] <;> omega) | (refine (?_ : _ = rowsLen _); simp [rowsLen] <;> omega) | refine eqv_to _ (app_row rfl) (eqv_to _ app_len ?_) | refine eqv_to _ (app_first rfl) (eqv_to 1 rfl ?_) | refine idx_sl (at_map (by assumption)) (by omega) ?_ | refine idx_ms _ (by first | rfl | assumption) (by first | assumption | omega) ?_ | fail)
    exact ret_obj [] [] rfl rfl trivial (r' := .tup [vint .i64 (costZ (n.es.zip f)), vbool true]) rfl ⟨rfl, _, true, rfl, .inr ⟨rfl, f, hbal, rfl, fun x hx => feas_le hv hbal hf hq hx⟩⟩
  case' refine_2.refine_2.refine_2.refine_2.refine_2.refine_1.refine_2.refine_2 =>
    have hPn : P ≠ [] := by assumption
    obtain ⟨_, ⟨w, p5⟩, pneg, p6, p7, p8⟩ : CircS n f P := by
      rcases hP with ⟨e, _⟩ | h
      · exact absurd (List.length_eq_zero_iff.1 e) hPn
      · exact h
    clear hP
    change vcFun _ _ _ _ _
    refine call_one (i := 1) rfl (fun _ _ => rfl) [.ms 0 1 0 n.es.length, encRs n.es f P, vint .i64 1000] rfl (c_push g hf P 1000 (fun a ha => (p8 a ha).1) p6 p7 (by decide) (by decide)) ?_
    rintro r H' ⟨rfl, rfl⟩
    refine ⟨_, rfl, fun _ _ => rfl, fun _ _ => rfl, ?_⟩
    obtain ⟨m1, m2⟩ := minRoom_le n.es f P 1000
    have m3 := minRoom_pos n.es f P 1000 (by decide) fun a ha => (p8 a ha).2
    generalize minRoom n.es f P 1000 = k at *
    obtain ⟨t1, t2, t3⟩ := chain_sums g hf (by omega) (fun a ha => ⟨(p8 a ha).1, m2 a ha⟩) p6 p5
    have hb0 := (balP_spec hbal).2.2.2
    have hbal2 : balB n (pushAll f P k) = true := t1.bal hv g fun v hvN => by
      rw [t3 v, hb0 v (by omega)]; omega
    have hcost := t1.cost hv
    have hdec : sumCo n.es P * k ≤ sumCo n.es P * 1 := Int.mul_le_mul_of_nonpos_left (by omega) (by omega)
    repeat' (first | (exact (rfl : allOne _ = true)) | exact trivial | (refine (?_ : _ ≠ _); omega) | (refine (?_ : srcLen _ = rowsLen _); rfl) | (intro h; exact absurd h (Nat.succ_ne_zero _)) | (intro h; exact absurd h (Nat.not_lt_zero _))  | (exact (Nat.le_of_ble_eq_true rfl)) | (exact (by kernel_rfl : drawOk _ _ = true)) | refine ops_cons ?_ | refine ops_nil ?_ | refine opsD_cons ?_ | refine opsD_nil ?_ | refine any_step ?_ | refine any_nil ?_ | refine code_seq ?_ | refine code_region ?_ | refine code_cond ?_ | refine code_block ?_ | refine code_scope ?_ | refine code_skip ?_ | refine code_ret ?_ | refine code_exit ?_ | (refine And.intro ?_ ?_) | (intro h; first | exact Bool.noConfusion h | (simp at h; done) | simp at h | skip) | refine eqv_len_map ?_ | refine eqv_zero ?_ | refine eqv_wrap (by omega) (by omega) ?_ | refine eqv_to _ (set_map rfl rfl) ?_ | refine ⟨_, _, (by first | rfl | assumption), at_map (by assumption), ?_⟩ | refine ⟨_, at_map (by assumption), (by decide), ?_⟩ | refine ⟨_, at_map (by assumption), ?_⟩ | (refine (?_ : _ ≤ 140737488355328); simp [rowsLen] <;> omega) | (refine (?_ : _ ≤ 9223372036854775807); simp [rowsLen] <;> omega) | (refine (?_ : _ = rowsLen _); simp [rowsLen] <;> omega) | refine eqv_to _ (app_row rfl) (eqv_to _ app_len ?_) | refine eqv_to _ (app_first rfl) (eqv_to 1 rfl ?_) | refine idx_sl (at_map (by assumption)) (by omega) ?_ | refine idx_ms _ (by first | rfl | assumption) (by first | assumption | omega) ?_ | fail)
    exact ⟨pushAll f P k, ⟨t1, hbal2⟩, by rw [t2] at hcost ⊢; omega, ⟨[0, 1], rfl, rfl, And.intro rfl (And.intro rfl trivial), rfl, rfl, trivial⟩⟩
end Go.Proofs.Ytlhakdmenohdnaa.Cw
