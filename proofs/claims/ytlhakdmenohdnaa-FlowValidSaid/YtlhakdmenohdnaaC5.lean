/-
  Contracts of the functions of the flow laws: dice and made networks.
-/
import Derived.Test.YtlhakdmenohdnaaC4
namespace Go.Proofs.Ytlhakdmenohdnaa.Cw
open Go.Cw Go.Proofs
set_option linter.unusedVariables false
set_option maxRecDepth 100000

def modI (a m : Int) : Int := if m < 1 then 0 else a % m

theorem tmod_mod {a m : Int} (h : 1 ≤ m) : (if a.tmod m < 0 then a.tmod m + m else a.tmod m) = a % m := by
  rw [Int.tmod_eq_emod]
  have h1 := Int.emod_nonneg a (show m ≠ 0 by omega)
  have h2 := Int.emod_lt_of_pos a (show 0 < m by omega)
  split
  · simp only [Int.ofNat_zero, Int.natCast_zero, Int.sub_zero]; rw [if_neg (by omega)]
  · rename_i h3
    have : (m.natAbs : Int) = m := by omega
    rw [this, if_pos (by omega)]; omega

theorem c_mod (a m : Int) (hm : m ≤ 9223372036854775807) : PCall Try.prog 27 [vint .i64 a, vint .i64 m] (fun r => r = vint .i64 (modI a m)) := by
  refine acall_of tok mixed 16 rfl (fn := Try.f27) (c := Try.f27.body.getD .skip) (by kernel_rfl) (by kernel_rfl) (by kernel_rfl) rfl 0 rfl ?_
  repeat' (first | (exact (rfl : allOne _ = true)) | exact trivial | (refine (?_ : _ ≠ _); omega) | (refine (?_ : srcLen _ = rowsLen _); rfl) | (intro h; exact absurd h (Nat.succ_ne_zero _)) | (intro h; exact absurd h (Nat.not_lt_zero _))  | (exact (Nat.le_of_ble_eq_true rfl)) | (exact (by kernel_rfl : drawOk _ _ = true)) | refine ops_cons ?_ | refine ops_nil ?_ | refine opsD_cons ?_ | refine opsD_nil ?_ | refine any_step ?_ | refine any_nil ?_ | refine code_seq ?_ | refine code_region ?_ | refine code_cond ?_ | refine code_block ?_ | refine code_scope ?_ | refine code_skip ?_ | refine code_ret ?_ | refine code_exit ?_ | (refine And.intro ?_ ?_) | (intro h; first | exact Bool.noConfusion h | (simp at h; done) | simp at h | skip) | refine eqv_len_map ?_ | refine eqv_zero ?_ | refine eqv_wrap (by omega) (by omega) ?_ | refine eqv_to _ (set_map rfl rfl) ?_ | refine ⟨_, _, (by first | rfl | assumption), at_map (by assumption), ?_⟩ | refine ⟨_, at_map (by assumption), (by decide), ?_⟩ | refine ⟨_, at_map (by assumption), ?_⟩ | (refine (?_ : _ ≤ 140737488355328); simp [rowsLen] <;> omega) | (refine (?_ : _ ≤ 9223372036854775807); simp [rowsLen] <;> omega) | refine idx_sl (at_map (by assumption)) (by omega) ?_ | refine idx_ms _ (by first | rfl | assumption) (by first | assumption | omega) ?_ | fail); all_goals try (change retOk _ _ _ _; refine ret_pure rfl trivial ?_)
  case' refine_2.refine_2 =>
    have ht := tmod_mod (a := a) (m := m) (by omega)
    have h1 := Int.emod_nonneg a (show m ≠ 0 by omega)
    have h2 := Int.emod_lt_of_pos a (show 0 < m by omega)
    refine eqv_rfl ?_
    generalize a.tmod m = q at *
    have hq : q < 0 → q + m = a % m := fun h => by rw [if_pos h] at ht; exact ht
    repeat' (first | (exact (rfl : allOne _ = true)) | exact trivial | (refine (?_ : _ ≠ _); omega) | (refine (?_ : srcLen _ = rowsLen _); rfl) | (intro h; exact absurd h (Nat.succ_ne_zero _)) | (intro h; exact absurd h (Nat.not_lt_zero _))  | (exact (Nat.le_of_ble_eq_true rfl)) | (exact (by kernel_rfl : drawOk _ _ = true)) | refine ops_cons ?_ | refine ops_nil ?_ | refine opsD_cons ?_ | refine opsD_nil ?_ | refine any_step ?_ | refine any_nil ?_ | refine code_seq ?_ | refine code_region ?_ | refine code_cond ?_ | refine code_block ?_ | refine code_scope ?_ | refine code_skip ?_ | refine code_ret ?_ | refine code_exit ?_ | (refine And.intro ?_ ?_) | (intro h; first | exact Bool.noConfusion h | (simp at h; done) | simp at h | skip) | refine eqv_len_map ?_ | refine eqv_zero ?_ | refine eqv_wrap (by omega) (by omega) ?_ | refine eqv_to _ (set_map rfl rfl) ?_ | refine ⟨_, _, (by first | rfl | assumption), at_map (by assumption), ?_⟩ | refine ⟨_, at_map (by assumption), (by decide), ?_⟩ | refine ⟨_, at_map (by assumption), ?_⟩ | (refine (?_ : _ ≤ 140737488355328); simp [rowsLen] <;> omega) | (refine (?_ : _ ≤ 9223372036854775807); simp [rowsLen] <;> omega) | refine idx_sl (at_map (by assumption)) (by omega) ?_ | refine idx_ms _ (by first | rfl | assumption) (by first | assumption | omega) ?_ | fail); all_goals try (change retOk _ _ _ _; refine ret_pure rfl trivial ?_)
  all_goals
    refine congrArg (vint .i64) ?_
    unfold modI
  all_goals first
    | (rw [if_neg (by omega)]; exact hq h)
    | (rw [if_neg (by omega), ← ht, if_neg (by omega)])
    | rw [if_pos h]

def dice (t : List Int) (k : Nat) : Option AObj := some ⟨55, 2, false, .box [encI t, vint .i64 k]⟩
def nextV (t : List Int) (k : Nat) (n : Int) : Int := match t[k]? with
  | some x => modI x n
  | none => 0
def nextK (t : List Int) (k : Nat) : Nat := if k < t.length then k + 1 else k

theorem nextV_range (t : List Int) (k : Nat) {n : Int} (h : 1 ≤ n) : 0 ≤ nextV t k n ∧ nextV t k n < n := by
  unfold nextV
  split
  · unfold modI; rw [if_neg (by omega)]; exact ⟨Int.emod_nonneg _ (by omega), Int.emod_lt_of_pos _ (by omega)⟩
  · omega

theorem c_next (t : List Int) (k : Nat) (n : Int) (ht : t.length ≤ 400) (hk : k ≤ t.length) (hn : n ≤ 9223372036854775807) :
    ACall Try.prog 24 [.ptr 0 2 0 0, vint .i64 n] [dice t k] (fun r H' => r = vint .i64 (nextV t k n) ∧ H' = [dice t (nextK t k)]) := by
  refine acall_of tok mixed 35 rfl (fn := Try.f24) (c := Try.f24.body.getD .skip) (by kernel_rfl) (by kernel_rfl) (by kernel_rfl) rfl 1 rfl ?_
  repeat' (first | (exact (rfl : allOne _ = true)) | exact trivial | (refine (?_ : _ ≠ _); omega) | (refine (?_ : srcLen _ = rowsLen _); rfl) | (intro h; exact absurd h (Nat.succ_ne_zero _)) | (intro h; exact absurd h (Nat.not_lt_zero _))  | (exact (Nat.le_of_ble_eq_true rfl)) | (exact (by kernel_rfl : drawOk _ _ = true)) | refine ops_cons ?_ | refine ops_nil ?_ | refine opsD_cons ?_ | refine opsD_nil ?_ | refine any_step ?_ | refine any_nil ?_ | refine code_seq ?_ | refine code_region ?_ | refine code_cond ?_ | refine code_block ?_ | refine code_scope ?_ | refine code_skip ?_ | refine code_ret ?_ | refine code_exit ?_ | (refine And.intro ?_ ?_) | (intro h; first | exact Bool.noConfusion h | (simp at h; done) | simp at h | skip) | refine eqv_len_map ?_ | refine eqv_zero ?_ | refine eqv_wrap (by omega) (by omega) ?_ | refine eqv_to _ (set_map rfl rfl) ?_ | refine ⟨_, _, (by first | rfl | assumption), at_map (by assumption), ?_⟩ | refine ⟨_, at_map (by assumption), (by decide), ?_⟩ | refine ⟨_, at_map (by assumption), ?_⟩ | (refine (?_ : _ ≤ 140737488355328); simp [rowsLen] <;> omega) | (refine (?_ : _ ≤ 9223372036854775807); simp [rowsLen] <;> omega) | refine idx_sl (at_map (by assumption)) (by omega) ?_ | refine idx_ms _ (by first | rfl | assumption) (by first | assumption | omega) ?_ | fail)
  case' refine_1 =>
    refine ret_obj [0] [dice t (nextK t k)] rfl rfl ⟨(by rw [nextK, if_neg (by omega)]; rfl), trivial⟩ (r' := vint .i64 0) rfl ⟨?_, rfl⟩
    simp [nextV, List.getElem?_eq_none h]
  case' refine_2 =>
    obtain ⟨x, hx⟩ := getE h
    repeat' (first | (exact (rfl : allOne _ = true)) | exact trivial | (refine (?_ : _ ≠ _); omega) | (refine (?_ : srcLen _ = rowsLen _); rfl) | (intro h; exact absurd h (Nat.succ_ne_zero _)) | (intro h; exact absurd h (Nat.not_lt_zero _))  | (exact (Nat.le_of_ble_eq_true rfl)) | (exact (by kernel_rfl : drawOk _ _ = true)) | refine ops_cons ?_ | refine ops_nil ?_ | refine opsD_cons ?_ | refine opsD_nil ?_ | refine any_step ?_ | refine any_nil ?_ | refine code_seq ?_ | refine code_region ?_ | refine code_cond ?_ | refine code_block ?_ | refine code_scope ?_ | refine code_skip ?_ | refine code_ret ?_ | refine code_exit ?_ | (refine And.intro ?_ ?_) | (intro h; first | exact Bool.noConfusion h | (simp at h; done) | simp at h | skip) | refine eqv_len_map ?_ | refine eqv_zero ?_ | refine eqv_wrap (by omega) (by omega) ?_ | refine eqv_to _ (set_map rfl rfl) ?_ | refine ⟨_, _, (by first | rfl | assumption), at_map (by assumption), ?_⟩ | refine ⟨_, at_map (by assumption), (by decide), ?_⟩ | refine ⟨_, at_map (by assumption), ?_⟩ | (refine (?_ : _ ≤ 140737488355328); simp [rowsLen] <;> omega) | (refine (?_ : _ ≤ 9223372036854775807); simp [rowsLen] <;> omega) | refine idx_sl (at_map (by assumption)) (by omega) ?_ | refine idx_ms _ (by first | rfl | assumption) (by first | assumption | omega) ?_ | fail)
    change vcFunD _ _ _ _ _
    refine callD_eq rfl (by repeat' (first | trivial | refine And.intro ?_ ?_)) ALeL.refl (c_mod x n hn) rfl ?_
    repeat' (first | (exact (rfl : allOne _ = true)) | exact trivial | (refine (?_ : _ ≠ _); omega) | (refine (?_ : srcLen _ = rowsLen _); rfl) | (intro h; exact absurd h (Nat.succ_ne_zero _)) | (intro h; exact absurd h (Nat.not_lt_zero _))  | (exact (Nat.le_of_ble_eq_true rfl)) | (exact (by kernel_rfl : drawOk _ _ = true)) | refine ops_cons ?_ | refine ops_nil ?_ | refine opsD_cons ?_ | refine opsD_nil ?_ | refine any_step ?_ | refine any_nil ?_ | refine code_seq ?_ | refine code_region ?_ | refine code_cond ?_ | refine code_block ?_ | refine code_scope ?_ | refine code_skip ?_ | refine code_ret ?_ | refine code_exit ?_ | (refine And.intro ?_ ?_) | (intro h; first | exact Bool.noConfusion h | (simp at h; done) | simp at h | skip) | refine eqv_len_map ?_ | refine eqv_zero ?_ | refine eqv_wrap (by omega) (by omega) ?_ | refine eqv_to _ (set_map rfl rfl) ?_ | refine ⟨_, _, (by first | rfl | assumption), at_map (by assumption), ?_⟩ | refine ⟨_, at_map (by assumption), (by decide), ?_⟩ | refine ⟨_, at_map (by assumption), ?_⟩ | (refine (?_ : _ ≤ 140737488355328); simp [rowsLen] <;> omega) | (refine (?_ : _ ≤ 9223372036854775807); simp [rowsLen] <;> omega) | refine idx_sl (at_map (by assumption)) (by omega) ?_ | refine idx_ms _ (by first | rfl | assumption) (by first | assumption | omega) ?_ | fail)
    refine ret_obj [0] [dice t (nextK t k)] rfl rfl ⟨(by rw [nextK, if_pos h]; rfl), trivial⟩ (r' := vint .i64 (modI x n)) rfl ⟨?_, rfl⟩
    simp [nextV, hx]

theorem c_one (t : List Int) (k : Nat) (n : Int) (ht : t.length ≤ 400) (hk : k ≤ t.length) (hn : n ≤ 9223372036854775807) (hn1 : 1 ≤ n) :
    ACall Try.prog 28 [.ptr 0 2 0 0, vint .i64 n] [dice t k] (fun r H' => r = vbool (decide (nextV t k n = n - 1)) ∧ H' = [dice t (nextK t k)]) := by
  refine acall_of tok mixed 11 rfl (fn := Try.f28) (c := Try.f28.body.getD .skip) (by kernel_rfl) (by kernel_rfl) (by kernel_rfl) rfl 1 rfl ?_
  repeat' (first | (exact (rfl : allOne _ = true)) | exact trivial | (refine (?_ : _ ≠ _); omega) | (refine (?_ : srcLen _ = rowsLen _); rfl) | (intro h; exact absurd h (Nat.succ_ne_zero _)) | (intro h; exact absurd h (Nat.not_lt_zero _))  | (exact (Nat.le_of_ble_eq_true rfl)) | (exact (by kernel_rfl : drawOk _ _ = true)) | refine ops_cons ?_ | refine ops_nil ?_ | refine opsD_cons ?_ | refine opsD_nil ?_ | refine any_step ?_ | refine any_nil ?_ | refine code_seq ?_ | refine code_region ?_ | refine code_cond ?_ | refine code_block ?_ | refine code_scope ?_ | refine code_skip ?_ | refine code_ret ?_ | refine code_exit ?_ | (refine And.intro ?_ ?_) | (intro h; first | exact Bool.noConfusion h | (simp at h; done) | simp at h | skip) | refine eqv_len_map ?_ | refine eqv_zero ?_ | refine eqv_wrap (by omega) (by omega) ?_ | refine eqv_to _ (set_map rfl rfl) ?_ | refine ⟨_, _, (by first | rfl | assumption), at_map (by assumption), ?_⟩ | refine ⟨_, at_map (by assumption), (by decide), ?_⟩ | refine ⟨_, at_map (by assumption), ?_⟩ | (refine (?_ : _ ≤ 140737488355328); simp [rowsLen] <;> omega) | (refine (?_ : _ ≤ 9223372036854775807); simp [rowsLen] <;> omega) | refine idx_sl (at_map (by assumption)) (by omega) ?_ | refine idx_ms _ (by first | rfl | assumption) (by first | assumption | omega) ?_ | fail)
  change vcFun _ _ _ _ _
  refine call_obj [0] [dice t k] [.ptr 0 2 0 0, vint .i64 n] rfl ⟨rfl, trivial⟩ rfl (c_next t k n ht hk hn) ?_
  rintro r H' ⟨rfl, rfl⟩
  repeat' (first | (exact (rfl : allOne _ = true)) | exact trivial | (refine (?_ : _ ≠ _); omega) | (refine (?_ : srcLen _ = rowsLen _); rfl) | (intro h; exact absurd h (Nat.succ_ne_zero _)) | (intro h; exact absurd h (Nat.not_lt_zero _))  | (exact (Nat.le_of_ble_eq_true rfl)) | (exact (by kernel_rfl : drawOk _ _ = true)) | refine ops_cons ?_ | refine ops_nil ?_ | refine opsD_cons ?_ | refine opsD_nil ?_ | refine any_step ?_ | refine any_nil ?_ | refine code_seq ?_ | refine code_region ?_ | refine code_cond ?_ | refine code_block ?_ | refine code_scope ?_ | refine code_skip ?_ | refine code_ret ?_ | refine code_exit ?_ | (refine And.intro ?_ ?_) | (intro h; first | exact Bool.noConfusion h | (simp at h; done) | simp at h | skip) | refine eqv_len_map ?_ | refine eqv_zero ?_ | refine eqv_wrap (by omega) (by omega) ?_ | refine eqv_to _ (set_map rfl rfl) ?_ | refine ⟨_, _, (by first | rfl | assumption), at_map (by assumption), ?_⟩ | refine ⟨_, at_map (by assumption), (by decide), ?_⟩ | refine ⟨_, at_map (by assumption), ?_⟩ | (refine (?_ : _ ≤ 140737488355328); simp [rowsLen] <;> omega) | (refine (?_ : _ ≤ 9223372036854775807); simp [rowsLen] <;> omega) | refine idx_sl (at_map (by assumption)) (by omega) ?_ | refine idx_ms _ (by first | rfl | assumption) (by first | assumption | omega) ?_ | fail)
  refine ret_obj [0] [dice t (nextK t k)] rfl rfl ⟨rfl, trivial⟩ (r' := vbool (decide (nextV t k n = n - 1))) rfl ⟨rfl, rfl⟩

def Nxt (t : List Int) (k : Nat) (n v : Int) (k2 : Nat) : Prop := ACall Try.prog 24 [.ptr 0 2 0 0, vint .i64 n] [dice t k] (fun r H' => r = vint .i64 v ∧ H' = [dice t k2])
theorem nextK_le {t : List Int} {k : Nat} (h : k ≤ t.length) : nextK t k ≤ t.length := by unfold nextK; split <;> omega

theorem next_ex (t : List Int) (k : Nat) (n : Int) (ht : t.length ≤ 400) (hk : k ≤ t.length) (hn : n ≤ 9223372036854775807) (h1 : 1 ≤ n) :
    ∃ v k2, 0 ≤ v ∧ v < n ∧ k2 ≤ t.length ∧ Nxt t k n v k2 :=
  ⟨_, _, (nextV_range t k h1).1, (nextV_range t k h1).2, nextK_le hk, c_next t k n ht hk hn⟩

def One (t : List Int) (k : Nat) (n : Int) (b : Bool) (k2 : Nat) : Prop := ACall Try.prog 28 [.ptr 0 2 0 0, vint .i64 n] [dice t k] (fun r H' => r = vbool b ∧ H' = [dice t k2])
theorem one_ex (t : List Int) (k : Nat) (n : Int) (ht : t.length ≤ 400) (hk : k ≤ t.length) (hn : n ≤ 9223372036854775807) (h1 : 1 ≤ n) :
    ∃ b k2, k2 ≤ t.length ∧ One t k n b k2 :=
  ⟨_, _, nextK_le hk, c_one t k n ht hk hn h1⟩
end Go.Proofs.Ytlhakdmenohdnaa.Cw
