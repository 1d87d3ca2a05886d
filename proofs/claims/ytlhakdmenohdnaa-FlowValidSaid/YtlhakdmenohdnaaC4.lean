/-
  Contracts of the functions of the flow laws: costs.
-/
import Derived.Test.YtlhakdmenohdnaaC3
namespace Go.Proofs.Ytlhakdmenohdnaa.Cw
open Go.Cw Go.Proofs
set_option linter.unusedVariables false
set_option maxRecDepth 100000

def costZ : EF → Int
  | [] => 0
  | (e, f) :: r => e.co * f + costZ r
theorem costZ_append (a b : EF) : costZ (a ++ b) = costZ a + costZ b := by
  induction a with
  | nil => simp [costZ]
  | cons x a ih => obtain ⟨e, f⟩ := x; simp only [List.cons_append, costZ, ih]; omega

def okEF (x : Edge × Int) : Prop := 0 ≤ x.2 ∧ x.2 ≤ 1000 ∧ -1048576 ≤ x.1.co ∧ x.1.co ≤ 1048576

theorem mul_bound {a b : Int} (h1 : 0 ≤ b) (h2 : b ≤ 1000) (h3 : -1048576 ≤ a) (h4 : a ≤ 1048576) : -1048576000 ≤ a * b ∧ a * b ≤ 1048576000 := by
  constructor
  · have : -1048576 * b ≤ a * b := Int.mul_le_mul_of_nonneg_right h3 h1
    omega
  · have : a * b ≤ 1048576 * b := Int.mul_le_mul_of_nonneg_right h4 h1
    omega

theorem cost_bound (z : EF) (h : ∀ x ∈ z, okEF x) : -1048576000 * (z.length : Int) ≤ costZ z ∧ costZ z ≤ 1048576000 * (z.length : Int) := by
  induction z with
  | nil => simp [costZ]
  | cons x a ih =>
    obtain ⟨e, f⟩ := x
    have h1 := ih fun x hx => h x (by simp [hx])
    obtain ⟨h2, h3, h4, h5⟩ := h (e, f) (by simp)
    have := mul_bound h2 h3 h4 h5
    simp only at this
    simp only [costZ, List.length_cons]
    omega

theorem bal_spec {n : Net} {l : List Int} (h : balB n l = true) : validR n = 0 ∧ l.length = n.es.length ∧ (n.es.zip l).all inB = true ∧ ∀ x ∈ n.es.zip l, okEF x := by
  simp only [balB, Bool.and_eq_true, decide_eq_true_eq] at h
  refine ⟨h.1, h.2.1, h.2.2.1, fun x hx => ?_⟩
  have h1 := List.all_eq_true.1 h.2.2.1 x hx
  have h2 := (valid_spec h.1).2.2.2 x.1 (List.of_mem_zip hx).1
  simp [inB, soundB] at h1 h2
  simp only [okEF]; omega

def costR (n : Net) (l : List Int) : AV := if balB n l then .tup [vint .i64 (costZ (n.es.zip l)), vbool true] else .tup [vint .i64 0, vbool false]

theorem c_cost (n : Net) (l : List Int) : PCall Try.prog 12 [encN n, encI l] (fun r => r = costR n l) := by
  refine acall_of tok mixed 32 rfl (fn := Try.f12) (c := Try.f12.body.getD .skip) (by kernel_rfl) (by kernel_rfl) (by kernel_rfl) rfl 0 rfl ?_
  repeat' (first | (exact (rfl : allOne _ = true)) | exact trivial | (refine (?_ : _ ≠ _); omega) | (refine (?_ : srcLen _ = rowsLen _); rfl) | (intro h; exact absurd h (Nat.succ_ne_zero _)) | (intro h; exact absurd h (Nat.not_lt_zero _))  | (exact (Nat.le_of_ble_eq_true rfl)) | (exact (by kernel_rfl : drawOk _ _ = true)) | refine ops_cons ?_ | refine ops_nil ?_ | refine opsD_cons ?_ | refine opsD_nil ?_ | refine any_step ?_ | refine any_nil ?_ | refine code_seq ?_ | refine code_region ?_ | refine code_cond ?_ | refine code_block ?_ | refine code_scope ?_ | refine code_skip ?_ | refine code_ret ?_ | refine code_exit ?_ | (refine And.intro ?_ ?_) | (intro h; first | exact Bool.noConfusion h | (simp at h; done) | simp at h | skip) | refine eqv_len_map ?_ | refine eqv_zero ?_ | refine eqv_wrap (by omega) (by omega) ?_ | refine eqv_to _ (set_map rfl rfl) ?_ | refine ⟨_, _, (by first | rfl | assumption), at_map (by assumption), ?_⟩ | refine ⟨_, at_map (by assumption), (by decide), ?_⟩ | refine ⟨_, at_map (by assumption), ?_⟩ | (refine (?_ : _ ≤ 140737488355328); simp [rowsLen] <;> omega) | (refine (?_ : _ ≤ 9223372036854775807); simp [rowsLen] <;> omega) | refine idx_sl (at_map (by assumption)) (by omega) ?_ | refine idx_ms _ (by first | rfl | assumption) (by first | assumption | omega) ?_ | fail); all_goals try (change retOk _ _ _ _; refine ret_pure rfl trivial ?_)
  change vcFun _ _ _ _ _; refine call_eq rfl (by repeat' (first | trivial | refine And.intro ?_ ?_)) ALeL.refl (c_bal n l) rfl ?_
  repeat' (first | (exact (rfl : allOne _ = true)) | exact trivial | (refine (?_ : _ ≠ _); omega) | (refine (?_ : srcLen _ = rowsLen _); rfl) | (intro h; exact absurd h (Nat.succ_ne_zero _)) | (intro h; exact absurd h (Nat.not_lt_zero _))  | (exact (Nat.le_of_ble_eq_true rfl)) | (exact (by kernel_rfl : drawOk _ _ = true)) | refine ops_cons ?_ | refine ops_nil ?_ | refine opsD_cons ?_ | refine opsD_nil ?_ | refine any_step ?_ | refine any_nil ?_ | refine code_seq ?_ | refine code_region ?_ | refine code_cond ?_ | refine code_block ?_ | refine code_scope ?_ | refine code_skip ?_ | refine code_ret ?_ | refine code_exit ?_ | (refine And.intro ?_ ?_) | (intro h; first | exact Bool.noConfusion h | (simp at h; done) | simp at h | skip) | refine eqv_len_map ?_ | refine eqv_zero ?_ | refine eqv_wrap (by omega) (by omega) ?_ | refine eqv_to _ (set_map rfl rfl) ?_ | refine ⟨_, _, (by first | rfl | assumption), at_map (by assumption), ?_⟩ | refine ⟨_, at_map (by assumption), (by decide), ?_⟩ | refine ⟨_, at_map (by assumption), ?_⟩ | (refine (?_ : _ ≤ 140737488355328); simp [rowsLen] <;> omega) | (refine (?_ : _ ≤ 9223372036854775807); simp [rowsLen] <;> omega) | refine idx_sl (at_map (by assumption)) (by omega) ?_ | refine idx_ms _ (by first | rfl | assumption) (by first | assumption | omega) ?_ | fail); all_goals try (change retOk _ _ _ _; refine ret_pure rfl trivial ?_)
  case' refine_2 =>
    obtain ⟨hv, hl, hin, hok⟩ := bal_spec h
    obtain ⟨v1, v2, v3, v4⟩ := valid_spec hv
    refine code_loop (fun i : Nat => ⟨[(16, vint .i64 i), (15, vint .i64 n.es.length), (14, .pv (.sl 5 (n.es.map encE))), (6, vint .i64 (costZ ((n.es.zip l).take i))), (1, encI l)], []⟩)
      (fun i => i ≤ n.es.length) (fun i => n.es.length - i) ⟨0, by simp, ⟨[], rfl, rfl, trivial, rfl, rfl, rfl, rfl, rfl, trivial⟩⟩ ?_
    intro i hi
    repeat' (first | (exact (rfl : allOne _ = true)) | exact trivial | (refine (?_ : _ ≠ _); omega) | (refine (?_ : srcLen _ = rowsLen _); rfl) | (intro h; exact absurd h (Nat.succ_ne_zero _)) | (intro h; exact absurd h (Nat.not_lt_zero _))  | (exact (Nat.le_of_ble_eq_true rfl)) | (exact (by kernel_rfl : drawOk _ _ = true)) | refine ops_cons ?_ | refine ops_nil ?_ | refine opsD_cons ?_ | refine opsD_nil ?_ | refine any_step ?_ | refine any_nil ?_ | refine code_seq ?_ | refine code_region ?_ | refine code_cond ?_ | refine code_block ?_ | refine code_scope ?_ | refine code_skip ?_ | refine code_ret ?_ | refine code_exit ?_ | (refine And.intro ?_ ?_) | (intro h; first | exact Bool.noConfusion h | (simp at h; done) | simp at h | skip) | refine eqv_len_map ?_ | refine eqv_zero ?_ | refine eqv_wrap (by omega) (by omega) ?_ | refine eqv_to _ (set_map rfl rfl) ?_ | refine ⟨_, _, (by first | rfl | assumption), at_map (by assumption), ?_⟩ | refine ⟨_, at_map (by assumption), (by decide), ?_⟩ | refine ⟨_, at_map (by assumption), ?_⟩ | (refine (?_ : _ ≤ 140737488355328); simp [rowsLen] <;> omega) | (refine (?_ : _ ≤ 9223372036854775807); simp [rowsLen] <;> omega) | refine idx_sl (at_map (by assumption)) (by omega) ?_ | refine idx_ms _ (by first | rfl | assumption) (by first | assumption | omega) ?_ | fail); all_goals try (change retOk _ _ _ _; refine ret_pure rfl trivial ?_)
    case' refine_1 =>
      obtain ⟨e, he⟩ := getE (show i < n.es.length by omega)
      obtain ⟨f, hf⟩ := getE (show i < l.length by omega)
      have hz : (n.es.zip l).take (i + 1) = (n.es.zip l).take i ++ [(e, f)] := zip_take he hf
      have hb := cost_bound ((n.es.zip l).take i) (fun x hx => hok x (List.mem_of_mem_take hx))
      have hlz : ((n.es.zip l).take i).length ≤ 8192 := by simp; omega
      obtain ⟨k1, k2, k3, k4⟩ := hok (e, f) (by
        have : (e, f) ∈ (n.es.zip l).take (i + 1) := by rw [hz]; simp
        exact List.mem_of_mem_take this)
      have hm : -1048576000 ≤ e.co * f ∧ e.co * f ≤ 1048576000 := mul_bound k1 k2 k3 k4
      have hc : costZ ((n.es.zip l).take (i + 1)) = costZ ((n.es.zip l).take i) + e.co * f := by rw [hz, costZ_append]; simp [costZ]
      repeat' (first | (exact (rfl : allOne _ = true)) | exact trivial | (refine (?_ : _ ≠ _); omega) | (refine (?_ : srcLen _ = rowsLen _); rfl) | (intro h; exact absurd h (Nat.succ_ne_zero _)) | (intro h; exact absurd h (Nat.not_lt_zero _))  | (exact (Nat.le_of_ble_eq_true rfl)) | (exact (by kernel_rfl : drawOk _ _ = true)) | refine ops_cons ?_ | refine ops_nil ?_ | refine opsD_cons ?_ | refine opsD_nil ?_ | refine any_step ?_ | refine any_nil ?_ | refine code_seq ?_ | refine code_region ?_ | refine code_cond ?_ | refine code_block ?_ | refine code_scope ?_ | refine code_skip ?_ | refine code_ret ?_ | refine code_exit ?_ | (refine And.intro ?_ ?_) | (intro h; first | exact Bool.noConfusion h | (simp at h; done) | simp at h | skip) | refine eqv_len_map ?_ | refine eqv_zero ?_ | refine eqv_wrap (by omega) (by omega) ?_ | refine eqv_to _ (set_map rfl rfl) ?_ | refine ⟨_, _, (by first | rfl | assumption), at_map (by assumption), ?_⟩ | refine ⟨_, at_map (by assumption), (by decide), ?_⟩ | refine ⟨_, at_map (by assumption), ?_⟩ | (refine (?_ : _ ≤ 140737488355328); simp [rowsLen] <;> omega) | (refine (?_ : _ ≤ 9223372036854775807); simp [rowsLen] <;> omega) | refine idx_sl (at_map (by assumption)) (by omega) ?_ | refine idx_ms _ (by first | rfl | assumption) (by first | assumption | omega) ?_ | fail); all_goals try (change retOk _ _ _ _; refine ret_pure rfl trivial ?_)
      refine ⟨i + 1, by omega, by omega, ⟨[], rfl, rfl, trivial, rfl, rfl, rfl, (by rw [hc]; rfl), rfl, trivial⟩⟩
    case' refine_2 =>
      have hze : (n.es.zip l).take i = n.es.zip l := List.take_of_length_le (by simp; omega)
  all_goals simp_all [costR, vint, vbool]

theorem c_rcost (n : Net) (l : List Int) : PCall Try.prog 13 [encN n, encI l] (fun r => r = costR n l) := by
  refine acall_of tok mixed 32 rfl (fn := Try.f13) (c := Try.f13.body.getD .skip) (by kernel_rfl) (by kernel_rfl) (by kernel_rfl) rfl 0 rfl ?_
  repeat' (first | (exact (rfl : allOne _ = true)) | exact trivial | (refine (?_ : _ ≠ _); omega) | (refine (?_ : srcLen _ = rowsLen _); rfl) | (intro h; exact absurd h (Nat.succ_ne_zero _)) | (intro h; exact absurd h (Nat.not_lt_zero _))  | (exact (Nat.le_of_ble_eq_true rfl)) | (exact (by kernel_rfl : drawOk _ _ = true)) | refine ops_cons ?_ | refine ops_nil ?_ | refine opsD_cons ?_ | refine opsD_nil ?_ | refine any_step ?_ | refine any_nil ?_ | refine code_seq ?_ | refine code_region ?_ | refine code_cond ?_ | refine code_block ?_ | refine code_scope ?_ | refine code_skip ?_ | refine code_ret ?_ | refine code_exit ?_ | (refine And.intro ?_ ?_) | (intro h; first | exact Bool.noConfusion h | (simp at h; done) | simp at h | skip) | refine eqv_len_map ?_ | refine eqv_zero ?_ | refine eqv_wrap (by omega) (by omega) ?_ | refine eqv_to _ (set_map rfl rfl) ?_ | refine ⟨_, _, (by first | rfl | assumption), at_map (by assumption), ?_⟩ | refine ⟨_, at_map (by assumption), (by decide), ?_⟩ | refine ⟨_, at_map (by assumption), ?_⟩ | (refine (?_ : _ ≤ 140737488355328); simp [rowsLen] <;> omega) | (refine (?_ : _ ≤ 9223372036854775807); simp [rowsLen] <;> omega) | refine idx_sl (at_map (by assumption)) (by omega) ?_ | refine idx_ms _ (by first | rfl | assumption) (by first | assumption | omega) ?_ | fail); all_goals try (change retOk _ _ _ _; refine ret_pure rfl trivial ?_)
  change vcFun _ _ _ _ _; refine call_eq rfl (by repeat' (first | trivial | refine And.intro ?_ ?_)) ALeL.refl (c_rbal n l) rfl ?_
  repeat' (first | (exact (rfl : allOne _ = true)) | exact trivial | (refine (?_ : _ ≠ _); omega) | (refine (?_ : srcLen _ = rowsLen _); rfl) | (intro h; exact absurd h (Nat.succ_ne_zero _)) | (intro h; exact absurd h (Nat.not_lt_zero _))  | (exact (Nat.le_of_ble_eq_true rfl)) | (exact (by kernel_rfl : drawOk _ _ = true)) | refine ops_cons ?_ | refine ops_nil ?_ | refine opsD_cons ?_ | refine opsD_nil ?_ | refine any_step ?_ | refine any_nil ?_ | refine code_seq ?_ | refine code_region ?_ | refine code_cond ?_ | refine code_block ?_ | refine code_scope ?_ | refine code_skip ?_ | refine code_ret ?_ | refine code_exit ?_ | (refine And.intro ?_ ?_) | (intro h; first | exact Bool.noConfusion h | (simp at h; done) | simp at h | skip) | refine eqv_len_map ?_ | refine eqv_zero ?_ | refine eqv_wrap (by omega) (by omega) ?_ | refine eqv_to _ (set_map rfl rfl) ?_ | refine ⟨_, _, (by first | rfl | assumption), at_map (by assumption), ?_⟩ | refine ⟨_, at_map (by assumption), (by decide), ?_⟩ | refine ⟨_, at_map (by assumption), ?_⟩ | (refine (?_ : _ ≤ 140737488355328); simp [rowsLen] <;> omega) | (refine (?_ : _ ≤ 9223372036854775807); simp [rowsLen] <;> omega) | refine idx_sl (at_map (by assumption)) (by omega) ?_ | refine idx_ms _ (by first | rfl | assumption) (by first | assumption | omega) ?_ | fail); all_goals try (change retOk _ _ _ _; refine ret_pure rfl trivial ?_)
  case' refine_2 =>
    obtain ⟨hv, hl, hin, hok⟩ := bal_spec h
    obtain ⟨v1, v2, v3, v4⟩ := valid_spec hv
    refine code_loop (fun i : Nat => ⟨[(7, vint .i64 i), (6, vint .i64 (costZ ((n.es.zip l).take i))), (2, .ptr 0 2 0 0), (1, encI l)], [some ⟨24, 2, false, .box [.pv (ei n.nodes), .pv (.sl 5 (n.es.map encE))]⟩]⟩)
      (fun i => i ≤ n.es.length) (fun i => n.es.length - i) ⟨0, by simp, ⟨[0], rfl, rfl, ⟨rfl, trivial⟩, rfl, rfl, rfl, rfl, trivial⟩⟩ ?_
    intro i hi
    repeat' (first | (exact (rfl : allOne _ = true)) | exact trivial | (refine (?_ : _ ≠ _); omega) | (refine (?_ : srcLen _ = rowsLen _); rfl) | (intro h; exact absurd h (Nat.succ_ne_zero _)) | (intro h; exact absurd h (Nat.not_lt_zero _))  | (exact (Nat.le_of_ble_eq_true rfl)) | (exact (by kernel_rfl : drawOk _ _ = true)) | refine ops_cons ?_ | refine ops_nil ?_ | refine opsD_cons ?_ | refine opsD_nil ?_ | refine any_step ?_ | refine any_nil ?_ | refine code_seq ?_ | refine code_region ?_ | refine code_cond ?_ | refine code_block ?_ | refine code_scope ?_ | refine code_skip ?_ | refine code_ret ?_ | refine code_exit ?_ | (refine And.intro ?_ ?_) | (intro h; first | exact Bool.noConfusion h | (simp at h; done) | simp at h | skip) | refine eqv_len_map ?_ | refine eqv_zero ?_ | refine eqv_wrap (by omega) (by omega) ?_ | refine eqv_to _ (set_map rfl rfl) ?_ | refine ⟨_, _, (by first | rfl | assumption), at_map (by assumption), ?_⟩ | refine ⟨_, at_map (by assumption), (by decide), ?_⟩ | refine ⟨_, at_map (by assumption), ?_⟩ | (refine (?_ : _ ≤ 140737488355328); simp [rowsLen] <;> omega) | (refine (?_ : _ ≤ 9223372036854775807); simp [rowsLen] <;> omega) | refine idx_sl (at_map (by assumption)) (by omega) ?_ | refine idx_ms _ (by first | rfl | assumption) (by first | assumption | omega) ?_ | fail); all_goals try (change retOk _ _ _ _; refine ret_pure rfl trivial ?_)
    case' refine_1 =>
      obtain ⟨e, he⟩ := getE (show i < n.es.length by omega)
      obtain ⟨f, hf⟩ := getE (show i < l.length by omega)
      have hz : (n.es.zip l).take (i + 1) = (n.es.zip l).take i ++ [(e, f)] := zip_take he hf
      have hb := cost_bound ((n.es.zip l).take i) (fun x hx => hok x (List.mem_of_mem_take hx))
      have hlz : ((n.es.zip l).take i).length ≤ 8192 := by simp; omega
      obtain ⟨k1, k2, k3, k4⟩ := hok (e, f) (by
        have : (e, f) ∈ (n.es.zip l).take (i + 1) := by rw [hz]; simp
        exact List.mem_of_mem_take this)
      have hm : -1048576000 ≤ e.co * f ∧ e.co * f ≤ 1048576000 := mul_bound k1 k2 k3 k4
      have hc : costZ ((n.es.zip l).take (i + 1)) = costZ ((n.es.zip l).take i) + e.co * f := by rw [hz, costZ_append]; simp [costZ]
      repeat' (first | (exact (rfl : allOne _ = true)) | exact trivial | (refine (?_ : _ ≠ _); omega) | (refine (?_ : srcLen _ = rowsLen _); rfl) | (intro h; exact absurd h (Nat.succ_ne_zero _)) | (intro h; exact absurd h (Nat.not_lt_zero _))  | (exact (Nat.le_of_ble_eq_true rfl)) | (exact (by kernel_rfl : drawOk _ _ = true)) | refine ops_cons ?_ | refine ops_nil ?_ | refine opsD_cons ?_ | refine opsD_nil ?_ | refine any_step ?_ | refine any_nil ?_ | refine code_seq ?_ | refine code_region ?_ | refine code_cond ?_ | refine code_block ?_ | refine code_scope ?_ | refine code_skip ?_ | refine code_ret ?_ | refine code_exit ?_ | (refine And.intro ?_ ?_) | (intro h; first | exact Bool.noConfusion h | (simp at h; done) | simp at h | skip) | refine eqv_len_map ?_ | refine eqv_zero ?_ | refine eqv_wrap (by omega) (by omega) ?_ | refine eqv_to _ (set_map rfl rfl) ?_ | refine ⟨_, _, (by first | rfl | assumption), at_map (by assumption), ?_⟩ | refine ⟨_, at_map (by assumption), (by decide), ?_⟩ | refine ⟨_, at_map (by assumption), ?_⟩ | (refine (?_ : _ ≤ 140737488355328); simp [rowsLen] <;> omega) | (refine (?_ : _ ≤ 9223372036854775807); simp [rowsLen] <;> omega) | refine idx_sl (at_map (by assumption)) (by omega) ?_ | refine idx_ms _ (by first | rfl | assumption) (by first | assumption | omega) ?_ | fail); all_goals try (change retOk _ _ _ _; refine ret_pure rfl trivial ?_)
      refine ⟨i + 1, by omega, by omega, ⟨[0], rfl, rfl, ⟨rfl, trivial⟩, rfl, (by rw [hc]; rfl), rfl, rfl, trivial⟩⟩
    case' refine_2 =>
      have hze : (n.es.zip l).take i = n.es.zip l := List.take_of_length_le (by simp; omega)
  all_goals simp_all [costR, vint, vbool]
end Go.Proofs.Ytlhakdmenohdnaa.Cw
