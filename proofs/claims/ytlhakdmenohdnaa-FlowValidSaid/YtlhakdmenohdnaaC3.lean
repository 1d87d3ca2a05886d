/-
  Contracts of the functions of the flow laws: flows and their costs.
-/
import Derived.Test.YtlhakdmenohdnaaC2
namespace Go.Proofs.Ytlhakdmenohdnaa.Cw
open Go.Cw Go.Proofs
set_option linter.unusedVariables false
set_option maxRecDepth 100000

abbrev EF := List (Edge × Int)
def exc : EF → Int → Int
  | [], _ => 0
  | (e, f) :: r, v => exc r v + (if e.to = v then f else 0) - (if e.fr = v then f else 0)
def inB (x : Edge × Int) : Bool := decide (x.1.ls ≤ x.2 ∧ x.2 ≤ x.1.mo)
def sumsOf (k : Nat) (z : EF) : List Int := (List.range k).map fun (v : Nat) => exc z v
def encS (s : List Int) : List (List PV) := s.map fun x => [ei x]
def balB (n : Net) (l : List Int) : Bool := decide (validR n = 0) && (decide (l.length = n.es.length) && ((n.es.zip l).all inB && (sumsOf n.nodes.toNat (n.es.zip l)).all (fun x => decide (x = 0))))

theorem exc_append (a b : EF) (v : Int) : exc (a ++ b) v = exc a v + exc b v := by
  induction a with
  | nil => simp [exc]
  | cons x a ih => obtain ⟨e, f⟩ := x; simp only [List.cons_append, exc, ih]; omega

theorem exc_bound (z : EF) (h : ∀ x ∈ z, 0 ≤ x.2 ∧ x.2 ≤ 1000) (v : Int) : -1000 * (z.length : Int) ≤ exc z v ∧ exc z v ≤ 1000 * (z.length : Int) := by
  induction z with
  | nil => simp [exc]
  | cons x a ih =>
    obtain ⟨e, f⟩ := x
    have h1 := ih fun x hx => h x (by simp [hx])
    have h2 := h (e, f) (by simp)
    simp only [exc, List.length_cons]
    simp only at h2
    split <;> split <;> omega

theorem sums_get {k : Nat} {z : EF} {v : Nat} (h : v < k) : (sumsOf k z)[v]? = some (exc z v) := by
  simp [sumsOf, h]

/-- One more edge. -/
theorem sums_step' {k : Nat} {z : EF} {e : Edge} {f : Int} {a b : Nat} (ha : e.to = ↑a) (hb : e.fr = ↑b) (hak : a < k) (hbk : b < k) :
    ((sumsOf k z).set b (exc z b - f)).set a ((((sumsOf k z).set b (exc z b - f))[a]?).getD 0 + f) = sumsOf k (z ++ [(e, f)]) := by
  apply List.ext_getElem?
  intro i
  simp only [List.getElem?_set, List.length_set, sumsOf, List.length_map, List.length_range, List.getElem?_map, exc_append, exc, ha, hb]
  by_cases hi : i < k
  · simp only [List.getElem?_range hi, List.getElem?_range hak, Option.map_some]
    by_cases h1 : a = i
    · subst h1
      by_cases h2 : b = a
      · subst h2; simp [hak]
      · simp [h2, hak]; omega
    · by_cases h2 : b = i
      · subst h2; simp [h1, hbk]; omega
      · have h3 : (a : Int) ≠ i := by omega
        have h4 : (b : Int) ≠ i := by omega
        simp [h1, h2, h3, h4]
  · have h1 : ¬ b = i := by omega
    have h2 : ¬ a = i := by omega
    simp [h1, h2, List.getElem?_eq_none, Nat.le_of_not_lt hi]

/-- One more edge. -/
theorem sums_step {k : Nat} {z : EF} {e : Edge} {f : Int} {a b : Nat} (ha : e.to = ↑a) (hb : e.fr = ↑b) (hak : a < k) (hbk : b < k) :
    ((sumsOf k z).set a (exc z a + f)).set b ((((sumsOf k z).set a (exc z a + f))[b]?).getD 0 - f) = sumsOf k (z ++ [(e, f)]) := by
  apply List.ext_getElem?
  intro i
  simp only [List.getElem?_set, List.length_set, sumsOf, List.length_map, List.length_range, List.getElem?_map, exc_append, exc, ha, hb]
  by_cases hi : i < k
  · simp only [List.getElem?_range hi, List.getElem?_range hbk, Option.map_some]
    by_cases h1 : b = i
    · subst h1
      by_cases h2 : a = b
      · subst h2; simp [hak]
      · simp [h2, hbk]; omega
    · by_cases h2 : a = i
      · subst h2; simp [h1, hak]; omega
      · have h3 : (a : Int) ≠ i := by omega
        have h4 : (b : Int) ≠ i := by omega
        simp [h1, h2, h3, h4]
  · have h1 : ¬ b = i := by omega
    have h2 : ¬ a = i := by omega
    simp [h1, h2, List.getElem?_eq_none, Nat.le_of_not_lt hi]

theorem sums_nil (k : Nat) : List.replicate k [PV.val (Value.int .i64 (Int.ofNat 0))] = encS (sumsOf k []) := by
  apply List.ext_getElem? ; intro i
  simp only [encS, sumsOf, exc, ei, List.map_map, List.getElem?_map, List.getElem?_replicate]
  by_cases h : i < k
  · simp [h]
  · simp [h, List.getElem?_eq_none, Nat.le_of_not_lt h]

theorem zip_take {es : List Edge} {l : List Int} {i : Nat} {e : Edge} {f : Int} (he : es[i]? = some e) (hf : l[i]? = some f) : (es.zip l).take (i + 1) = (es.zip l).take i ++ [(e, f)] := by
  have h : (es.zip l)[i]? = some (e, f) := by rw [List.getElem?_zip_eq_some]; exact ⟨he, hf⟩
  obtain ⟨hi, h⟩ := List.getElem?_eq_some_iff.1 h
  rw [List.take_succ_eq_append_getElem hi, h]

theorem in_bound {k : Int} {es : List Edge} {l : List Int} {i : Nat} (hs : ∀ e ∈ es, soundB k e = true) (h : ((es.zip l).take i).all inB = true) : ∀ x ∈ (es.zip l).take i, 0 ≤ x.2 ∧ x.2 ≤ 1000 := fun x hx => by
  have h1 := List.all_eq_true.1 h x hx
  have h2 := hs x.1 (List.of_mem_zip (List.mem_of_mem_take hx)).1
  simp [inB, soundB] at h1 h2
  omega

theorem sums_get2 {k : Nat} {z : EF} {x : Int} {a b : Nat} (h : b < k) : ((sumsOf k z).set a x)[b]? = some (if a = b then x else exc z b) := by
  rw [List.getElem?_set]
  by_cases e : a = b
  · subst e; simp [sumsOf, h]
  · simp [e, sums_get h]

theorem valid_spec {n : Net} (h : validR n = 0) : 1 ≤ n.nodes ∧ n.nodes ≤ 2048 ∧ n.es.length ≤ 8192 ∧ ∀ e ∈ n.es, soundB n.nodes e = true := by
  unfold validR at h
  split at h
  · simp at h
  · split at h
    · simp at h
    · split at h
      · rename_i h3; exact ⟨by omega, by omega, by omega, List.all_eq_true.1 h3⟩
      · simp at h

theorem balB_bad {n : Net} {l : List Int} {i : Nat} {e : Edge} {f : Int} (he : n.es[i]? = some e) (hf : l[i]? = some f) (h : f < e.ls ∨ e.mo < f) : balB n l = false := by
  have h1 : (e, f) ∈ n.es.zip l := List.mem_of_getElem? (by rw [List.getElem?_zip_eq_some]; exact ⟨he, hf⟩)
  have : (n.es.zip l).all inB = false := by rw [List.all_eq_false]; exact ⟨_, h1, by simp [inB]; omega⟩
  simp [balB, this]

theorem balB_sum {n : Net} {l : List Int} {x : Int} (h : x ∈ sumsOf n.nodes.toNat (n.es.zip l)) (hx : ¬ x = 0) : balB n l = false := by
  have : (sumsOf n.nodes.toNat (n.es.zip l)).all (fun x => decide (x = 0)) = false := by rw [List.all_eq_false]; exact ⟨x, h, by simp [hx]⟩
  simp [balB, this]

theorem c_bal (n : Net) (l : List Int) : PCall Try.prog 16 [encN n, encI l] (fun r => r = vbool (balB n l)) := by
  refine acall_of tok mixed 80 rfl (fn := Try.f16) (c := Try.f16.body.getD .skip) (by kernel_rfl) (by kernel_rfl) (by kernel_rfl) rfl 0 rfl ?_
  repeat' (first | (exact (rfl : allOne _ = true)) | exact trivial | (refine (?_ : _ ≠ _); omega) | (refine (?_ : srcLen _ = rowsLen _); rfl) | (intro h; exact absurd h (Nat.succ_ne_zero _)) | (intro h; exact absurd h (Nat.not_lt_zero _))  | (exact (Nat.le_of_ble_eq_true rfl)) | (exact (by kernel_rfl : drawOk _ _ = true)) | refine ops_cons ?_ | refine ops_nil ?_ | refine opsD_cons ?_ | refine opsD_nil ?_ | refine any_step ?_ | refine any_nil ?_ | refine code_seq ?_ | refine code_region ?_ | refine code_cond ?_ | refine code_block ?_ | refine code_scope ?_ | refine code_skip ?_ | refine code_ret ?_ | refine code_exit ?_ | (refine And.intro ?_ ?_) | (intro h; first | exact Bool.noConfusion h | (simp at h; done) | simp at h | skip) | refine eqv_len_map ?_ | refine eqv_zero ?_ | refine eqv_wrap (by omega) (by omega) ?_ | refine eqv_to _ (set_map rfl rfl) ?_ | refine ⟨_, _, (by first | rfl | assumption), at_map (by assumption), ?_⟩ | refine ⟨_, at_map (by assumption), (by decide), ?_⟩ | refine ⟨_, at_map (by assumption), ?_⟩ | (refine (?_ : _ ≤ 140737488355328); simp [rowsLen] <;> omega) | (refine (?_ : _ ≤ 9223372036854775807); simp [rowsLen] <;> omega) | refine idx_sl (at_map (by assumption)) (by omega) ?_ | refine idx_ms _ (by first | rfl | assumption) (by first | assumption | omega) ?_ | fail); all_goals try (change retOk _ _ _ _; refine ret_pure rfl trivial ?_)
  change vcFun _ _ _ _ _; refine call_eq rfl (by repeat' (first | trivial | refine And.intro ?_ ?_)) ALeL.refl (c_valid n) rfl ?_
  repeat' (first | (exact (rfl : allOne _ = true)) | exact trivial | (refine (?_ : _ ≠ _); omega) | (refine (?_ : srcLen _ = rowsLen _); rfl) | (intro h; exact absurd h (Nat.succ_ne_zero _)) | (intro h; exact absurd h (Nat.not_lt_zero _))  | (exact (Nat.le_of_ble_eq_true rfl)) | (exact (by kernel_rfl : drawOk _ _ = true)) | refine ops_cons ?_ | refine ops_nil ?_ | refine opsD_cons ?_ | refine opsD_nil ?_ | refine any_step ?_ | refine any_nil ?_ | refine code_seq ?_ | refine code_region ?_ | refine code_cond ?_ | refine code_block ?_ | refine code_scope ?_ | refine code_skip ?_ | refine code_ret ?_ | refine code_exit ?_ | (refine And.intro ?_ ?_) | (intro h; first | exact Bool.noConfusion h | (simp at h; done) | simp at h | skip) | refine eqv_len_map ?_ | refine eqv_zero ?_ | refine eqv_wrap (by omega) (by omega) ?_ | refine eqv_to _ (set_map rfl rfl) ?_ | refine ⟨_, _, (by first | rfl | assumption), at_map (by assumption), ?_⟩ | refine ⟨_, at_map (by assumption), (by decide), ?_⟩ | refine ⟨_, at_map (by assumption), ?_⟩ | (refine (?_ : _ ≤ 140737488355328); simp [rowsLen] <;> omega) | (refine (?_ : _ ≤ 9223372036854775807); simp [rowsLen] <;> omega) | refine idx_sl (at_map (by assumption)) (by omega) ?_ | refine idx_ms _ (by first | rfl | assumption) (by first | assumption | omega) ?_ | fail); all_goals try (change retOk _ _ _ _; refine ret_pure rfl trivial ?_)
  case' refine_1.refine_2.refine_2 =>
    rename_i hv
    have hl : l.length = n.es.length := by omega
    obtain ⟨v1, v2, v3, v4⟩ := valid_spec hv
    refine ⟨n.nodes.toNat, n.nodes.toNat, by omega, by omega, by omega, by omega, by omega, ?_⟩
    refine eqv_to (encS (sumsOf n.nodes.toNat [])) (sums_nil _) ?_
    repeat' (first | (exact (rfl : allOne _ = true)) | exact trivial | (refine (?_ : _ ≠ _); omega) | (refine (?_ : srcLen _ = rowsLen _); rfl) | (intro h; exact absurd h (Nat.succ_ne_zero _)) | (intro h; exact absurd h (Nat.not_lt_zero _))  | (exact (Nat.le_of_ble_eq_true rfl)) | (exact (by kernel_rfl : drawOk _ _ = true)) | refine ops_cons ?_ | refine ops_nil ?_ | refine opsD_cons ?_ | refine opsD_nil ?_ | refine any_step ?_ | refine any_nil ?_ | refine code_seq ?_ | refine code_region ?_ | refine code_cond ?_ | refine code_block ?_ | refine code_scope ?_ | refine code_skip ?_ | refine code_ret ?_ | refine code_exit ?_ | (refine And.intro ?_ ?_) | (intro h; first | exact Bool.noConfusion h | (simp at h; done) | simp at h | skip) | refine eqv_len_map ?_ | refine eqv_zero ?_ | refine eqv_wrap (by omega) (by omega) ?_ | refine eqv_to _ (set_map rfl rfl) ?_ | refine ⟨_, _, (by first | rfl | assumption), at_map (by assumption), ?_⟩ | refine ⟨_, at_map (by assumption), (by decide), ?_⟩ | refine ⟨_, at_map (by assumption), ?_⟩ | (refine (?_ : _ ≤ 140737488355328); simp [rowsLen] <;> omega) | (refine (?_ : _ ≤ 9223372036854775807); simp [rowsLen] <;> omega) | refine idx_sl (at_map (by assumption)) (by omega) ?_ | refine idx_ms _ (by first | rfl | assumption) (by first | assumption | omega) ?_ | fail); all_goals try (change retOk _ _ _ _; refine ret_pure rfl trivial ?_)
    refine code_loop (fun i : Nat => ⟨[(27, vint .i64 i), (26, vint .i64 n.es.length), (25, .pv (.sl 5 (n.es.map encE))), (5, .ms 1 1 0 n.nodes.toNat), (2, .ptr 0 2 0 0), (1, encI l)],
        [some ⟨24, 2, false, .box [.pv (ei n.nodes), .pv (.sl 5 (n.es.map encE))]⟩, some ⟨3, 1, false, .p (encS (sumsOf n.nodes.toNat ((n.es.zip l).take i)))⟩]⟩)
      (fun i => i ≤ n.es.length ∧ ((n.es.zip l).take i).all inB = true) (fun i => n.es.length - i) ⟨0, by simp, ⟨[0, 1], rfl, rfl, ⟨rfl, rfl, trivial⟩, rfl, rfl, rfl, rfl, rfl, rfl, trivial⟩⟩ ?_
    intro i hi
    repeat' (first | (exact (rfl : allOne _ = true)) | exact trivial | (refine (?_ : _ ≠ _); omega) | (refine (?_ : srcLen _ = rowsLen _); rfl) | (intro h; exact absurd h (Nat.succ_ne_zero _)) | (intro h; exact absurd h (Nat.not_lt_zero _))  | (exact (Nat.le_of_ble_eq_true rfl)) | (exact (by kernel_rfl : drawOk _ _ = true)) | refine ops_cons ?_ | refine ops_nil ?_ | refine opsD_cons ?_ | refine opsD_nil ?_ | refine any_step ?_ | refine any_nil ?_ | refine code_seq ?_ | refine code_region ?_ | refine code_cond ?_ | refine code_block ?_ | refine code_scope ?_ | refine code_skip ?_ | refine code_ret ?_ | refine code_exit ?_ | (refine And.intro ?_ ?_) | (intro h; first | exact Bool.noConfusion h | (simp at h; done) | simp at h | skip) | refine eqv_len_map ?_ | refine eqv_zero ?_ | refine eqv_wrap (by omega) (by omega) ?_ | refine eqv_to _ (set_map rfl rfl) ?_ | refine ⟨_, _, (by first | rfl | assumption), at_map (by assumption), ?_⟩ | refine ⟨_, at_map (by assumption), (by decide), ?_⟩ | refine ⟨_, at_map (by assumption), ?_⟩ | (refine (?_ : _ ≤ 140737488355328); simp [rowsLen] <;> omega) | (refine (?_ : _ ≤ 9223372036854775807); simp [rowsLen] <;> omega) | refine idx_sl (at_map (by assumption)) (by omega) ?_ | refine idx_ms _ (by first | rfl | assumption) (by first | assumption | omega) ?_ | fail); all_goals try (change retOk _ _ _ _; refine ret_pure rfl trivial ?_)
    case' refine_1 =>
      obtain ⟨e, he⟩ := getE (show i < n.es.length by omega)
      obtain ⟨f, hf⟩ := getE (show i < l.length by omega)
      obtain ⟨a, b, ha, hb, hak, hbk, hs1, hs2⟩ : ∃ a b : Nat, e.to = ↑a ∧ e.fr = ↑b ∧ a < n.nodes.toNat ∧ b < n.nodes.toNat ∧ 0 ≤ e.ls ∧ e.mo ≤ 1000 := by
        have := v4 e (List.mem_of_getElem? he)
        simp [soundB] at this
        exact ⟨e.to.toNat, e.fr.toNat, by omega, by omega, by omega, by omega, by omega, by omega⟩
      have hz : (n.es.zip l).take (i + 1) = (n.es.zip l).take i ++ [(e, f)] := zip_take he hf
      have hbd := exc_bound ((n.es.zip l).take i) (in_bound (fun e he => v4 e he) hi.2)
      have hlz : ((n.es.zip l).take i).length ≤ 8192 := by simp; omega
      have hba := hbd a
      have hbb := hbd b
      have hga : (sumsOf n.nodes.toNat ((n.es.zip l).take i))[a]? = some (exc ((n.es.zip l).take i) a) := sums_get hak
      have hgb := sums_get2 (z := (n.es.zip l).take i) (x := exc ((n.es.zip l).take i) a + f) (a := a) hbk
      have hst := sums_step (z := (n.es.zip l).take i) (e := e) (f := f) ha hb hak hbk
      rw [hgb, ← hz] at hst
      repeat' (first | (exact (rfl : allOne _ = true)) | exact trivial | (refine (?_ : _ ≠ _); omega) | (refine (?_ : srcLen _ = rowsLen _); rfl) | (intro h; exact absurd h (Nat.succ_ne_zero _)) | (intro h; exact absurd h (Nat.not_lt_zero _))  | (exact (Nat.le_of_ble_eq_true rfl)) | (exact (by kernel_rfl : drawOk _ _ = true)) | refine ops_cons ?_ | refine ops_nil ?_ | refine opsD_cons ?_ | refine opsD_nil ?_ | refine any_step ?_ | refine any_nil ?_ | refine code_seq ?_ | refine code_region ?_ | refine code_cond ?_ | refine code_block ?_ | refine code_scope ?_ | refine code_skip ?_ | refine code_ret ?_ | refine code_exit ?_ | (refine And.intro ?_ ?_) | (intro h; first | exact Bool.noConfusion h | (simp at h; done) | simp at h | skip) | refine eqv_len_map ?_ | refine eqv_zero ?_ | refine eqv_wrap (by omega) (by omega) ?_ | refine eqv_to _ (set_map rfl rfl) ?_ | refine ⟨_, _, (by first | rfl | assumption), at_map (by assumption), ?_⟩ | refine ⟨_, at_map (by assumption), (by decide), ?_⟩ | refine ⟨_, at_map (by assumption), ?_⟩ | (refine (?_ : _ ≤ 140737488355328); simp [rowsLen] <;> omega) | (refine (?_ : _ ≤ 9223372036854775807); simp [rowsLen] <;> omega) | refine idx_sl (at_map (by assumption)) (by omega) ?_ | refine idx_ms _ (by first | rfl | assumption) (by first | assumption | omega) ?_ | fail); all_goals try (change retOk _ _ _ _; refine ret_pure rfl trivial ?_)
      all_goals try (refine ⟨i + 1, ⟨by omega, ?_⟩, by omega, ⟨[0, 1], rfl, rfl, ⟨rfl, (by rw [← hst]; rfl), trivial⟩, rfl, rfl, rfl, rfl, rfl, rfl, trivial⟩⟩)
      all_goals first
        | (rw [hz, List.all_append, hi.2]; simp [inB]; omega)
        | (refine congrArg vbool (balB_bad he hf ?_).symm; omega)
    case' refine_2 =>
      have hall : (n.es.zip l).all inB = true := by
        rw [← List.take_of_length_le (l := n.es.zip l) (i := i) (by simp; omega)]; exact hi.2
      have hze : (n.es.zip l).take i = n.es.zip l := List.take_of_length_le (by simp; omega)
      rw [hze]
      refine code_loop (fun j : Nat => ⟨[(73, vint .i64 j), (72, vint .i64 n.nodes.toNat), (71, .ms 1 1 0 n.nodes.toNat)],
          [none, some ⟨3, 1, false, .p (encS (sumsOf n.nodes.toNat (n.es.zip l)))⟩]⟩)
        (fun j => j ≤ n.nodes.toNat ∧ ((sumsOf n.nodes.toNat (n.es.zip l)).take j).all (fun x => decide (x = 0)) = true) (fun j => n.nodes.toNat - j) ⟨0, by simp, ⟨[0, 1], rfl, rfl, ⟨rfl, trivial⟩, rfl, rfl, rfl, trivial⟩⟩ ?_
      intro j hj
      repeat' (first | (exact (rfl : allOne _ = true)) | exact trivial | (refine (?_ : _ ≠ _); omega) | (refine (?_ : srcLen _ = rowsLen _); rfl) | (intro h; exact absurd h (Nat.succ_ne_zero _)) | (intro h; exact absurd h (Nat.not_lt_zero _))  | (exact (Nat.le_of_ble_eq_true rfl)) | (exact (by kernel_rfl : drawOk _ _ = true)) | refine ops_cons ?_ | refine ops_nil ?_ | refine opsD_cons ?_ | refine opsD_nil ?_ | refine any_step ?_ | refine any_nil ?_ | refine code_seq ?_ | refine code_region ?_ | refine code_cond ?_ | refine code_block ?_ | refine code_scope ?_ | refine code_skip ?_ | refine code_ret ?_ | refine code_exit ?_ | (refine And.intro ?_ ?_) | (intro h; first | exact Bool.noConfusion h | (simp at h; done) | simp at h | skip) | refine eqv_len_map ?_ | refine eqv_zero ?_ | refine eqv_wrap (by omega) (by omega) ?_ | refine eqv_to _ (set_map rfl rfl) ?_ | refine ⟨_, _, (by first | rfl | assumption), at_map (by assumption), ?_⟩ | refine ⟨_, at_map (by assumption), (by decide), ?_⟩ | refine ⟨_, at_map (by assumption), ?_⟩ | (refine (?_ : _ ≤ 140737488355328); simp [rowsLen] <;> omega) | (refine (?_ : _ ≤ 9223372036854775807); simp [rowsLen] <;> omega) | refine idx_sl (at_map (by assumption)) (by omega) ?_ | refine idx_ms _ (by first | rfl | assumption) (by first | assumption | omega) ?_ | fail); all_goals try (change retOk _ _ _ _; refine ret_pure rfl trivial ?_)
      case' refine_1 =>
        have hg := sums_get (z := n.es.zip l) (show j < n.nodes.toNat by omega)
        repeat' (first | (exact (rfl : allOne _ = true)) | exact trivial | (refine (?_ : _ ≠ _); omega) | (refine (?_ : srcLen _ = rowsLen _); rfl) | (intro h; exact absurd h (Nat.succ_ne_zero _)) | (intro h; exact absurd h (Nat.not_lt_zero _))  | (exact (Nat.le_of_ble_eq_true rfl)) | (exact (by kernel_rfl : drawOk _ _ = true)) | refine ops_cons ?_ | refine ops_nil ?_ | refine opsD_cons ?_ | refine opsD_nil ?_ | refine any_step ?_ | refine any_nil ?_ | refine code_seq ?_ | refine code_region ?_ | refine code_cond ?_ | refine code_block ?_ | refine code_scope ?_ | refine code_skip ?_ | refine code_ret ?_ | refine code_exit ?_ | (refine And.intro ?_ ?_) | (intro h; first | exact Bool.noConfusion h | (simp at h; done) | simp at h | skip) | refine eqv_len_map ?_ | refine eqv_zero ?_ | refine eqv_wrap (by omega) (by omega) ?_ | refine eqv_to _ (set_map rfl rfl) ?_ | refine ⟨_, _, (by first | rfl | assumption), at_map (by assumption), ?_⟩ | refine ⟨_, at_map (by assumption), (by decide), ?_⟩ | refine ⟨_, at_map (by assumption), ?_⟩ | (refine (?_ : _ ≤ 140737488355328); simp [rowsLen] <;> omega) | (refine (?_ : _ ≤ 9223372036854775807); simp [rowsLen] <;> omega) | refine idx_sl (at_map (by assumption)) (by omega) ?_ | refine idx_ms _ (by first | rfl | assumption) (by first | assumption | omega) ?_ | fail); all_goals try (change retOk _ _ _ _; refine ret_pure rfl trivial ?_)
        all_goals try (refine ⟨j + 1, ⟨by omega, ?_⟩, by omega, ⟨[0, 1], rfl, rfl, ⟨rfl, trivial⟩, rfl, rfl, rfl, trivial⟩⟩; rw [all_take_succ hg, hj.2]; simp [*]; done)
        all_goals refine congrArg vbool (balB_sum (List.mem_of_getElem? hg) (by assumption)).symm
      case' refine_2 =>
        have : (sumsOf n.nodes.toNat (n.es.zip l)).all (fun x => decide (x = 0)) = true := by
          rw [← List.take_of_length_le (l := sumsOf n.nodes.toNat (n.es.zip l)) (i := j) (by simp [sumsOf]; omega)]; exact hj.2
        simp [balB, hv, hl, hall, this, vbool]
  all_goals
    refine congrArg vbool ?_
    simp [balB, *]
    try omega

theorem c_rbal (n : Net) (l : List Int) : PCall Try.prog 17 [encN n, encI l] (fun r => r = vbool (balB n l)) := by
  refine acall_of tok mixed 83 rfl (fn := Try.f17) (c := Try.f17.body.getD .skip) (by kernel_rfl) (by kernel_rfl) (by kernel_rfl) rfl 0 rfl ?_
  repeat' (first | (exact (rfl : allOne _ = true)) | exact trivial | (refine (?_ : _ ≠ _); omega) | (refine (?_ : srcLen _ = rowsLen _); rfl) | (intro h; exact absurd h (Nat.succ_ne_zero _)) | (intro h; exact absurd h (Nat.not_lt_zero _))  | (exact (Nat.le_of_ble_eq_true rfl)) | (exact (by kernel_rfl : drawOk _ _ = true)) | refine ops_cons ?_ | refine ops_nil ?_ | refine opsD_cons ?_ | refine opsD_nil ?_ | refine any_step ?_ | refine any_nil ?_ | refine code_seq ?_ | refine code_region ?_ | refine code_cond ?_ | refine code_block ?_ | refine code_scope ?_ | refine code_skip ?_ | refine code_ret ?_ | refine code_exit ?_ | (refine And.intro ?_ ?_) | (intro h; first | exact Bool.noConfusion h | (simp at h; done) | simp at h | skip) | refine eqv_len_map ?_ | refine eqv_zero ?_ | refine eqv_wrap (by omega) (by omega) ?_ | refine eqv_to _ (set_map rfl rfl) ?_ | refine ⟨_, _, (by first | rfl | assumption), at_map (by assumption), ?_⟩ | refine ⟨_, at_map (by assumption), (by decide), ?_⟩ | refine ⟨_, at_map (by assumption), ?_⟩ | (refine (?_ : _ ≤ 140737488355328); simp [rowsLen] <;> omega) | (refine (?_ : _ ≤ 9223372036854775807); simp [rowsLen] <;> omega) | refine idx_sl (at_map (by assumption)) (by omega) ?_ | refine idx_ms _ (by first | rfl | assumption) (by first | assumption | omega) ?_ | fail); all_goals try (change retOk _ _ _ _; refine ret_pure rfl trivial ?_)
  change vcFun _ _ _ _ _; refine call_eq rfl (by repeat' (first | trivial | refine And.intro ?_ ?_)) ALeL.refl (c_rvalid n) rfl ?_
  repeat' (first | (exact (rfl : allOne _ = true)) | exact trivial | (refine (?_ : _ ≠ _); omega) | (refine (?_ : srcLen _ = rowsLen _); rfl) | (intro h; exact absurd h (Nat.succ_ne_zero _)) | (intro h; exact absurd h (Nat.not_lt_zero _))  | (exact (Nat.le_of_ble_eq_true rfl)) | (exact (by kernel_rfl : drawOk _ _ = true)) | refine ops_cons ?_ | refine ops_nil ?_ | refine opsD_cons ?_ | refine opsD_nil ?_ | refine any_step ?_ | refine any_nil ?_ | refine code_seq ?_ | refine code_region ?_ | refine code_cond ?_ | refine code_block ?_ | refine code_scope ?_ | refine code_skip ?_ | refine code_ret ?_ | refine code_exit ?_ | (refine And.intro ?_ ?_) | (intro h; first | exact Bool.noConfusion h | (simp at h; done) | simp at h | skip) | refine eqv_len_map ?_ | refine eqv_zero ?_ | refine eqv_wrap (by omega) (by omega) ?_ | refine eqv_to _ (set_map rfl rfl) ?_ | refine ⟨_, _, (by first | rfl | assumption), at_map (by assumption), ?_⟩ | refine ⟨_, at_map (by assumption), (by decide), ?_⟩ | refine ⟨_, at_map (by assumption), ?_⟩ | (refine (?_ : _ ≤ 140737488355328); simp [rowsLen] <;> omega) | (refine (?_ : _ ≤ 9223372036854775807); simp [rowsLen] <;> omega) | refine idx_sl (at_map (by assumption)) (by omega) ?_ | refine idx_ms _ (by first | rfl | assumption) (by first | assumption | omega) ?_ | fail); all_goals try (change retOk _ _ _ _; refine ret_pure rfl trivial ?_)
  case' refine_1.refine_2.refine_2 =>
    rename_i hv
    have hl : l.length = n.es.length := by omega
    obtain ⟨v1, v2, v3, v4⟩ := valid_spec hv
    refine ⟨n.nodes.toNat, n.nodes.toNat, by omega, by omega, by omega, by omega, by omega, ?_⟩
    refine eqv_to (encS (sumsOf n.nodes.toNat [])) (sums_nil _) ?_
    repeat' (first | (exact (rfl : allOne _ = true)) | exact trivial | (refine (?_ : _ ≠ _); omega) | (refine (?_ : srcLen _ = rowsLen _); rfl) | (intro h; exact absurd h (Nat.succ_ne_zero _)) | (intro h; exact absurd h (Nat.not_lt_zero _))  | (exact (Nat.le_of_ble_eq_true rfl)) | (exact (by kernel_rfl : drawOk _ _ = true)) | refine ops_cons ?_ | refine ops_nil ?_ | refine opsD_cons ?_ | refine opsD_nil ?_ | refine any_step ?_ | refine any_nil ?_ | refine code_seq ?_ | refine code_region ?_ | refine code_cond ?_ | refine code_block ?_ | refine code_scope ?_ | refine code_skip ?_ | refine code_ret ?_ | refine code_exit ?_ | (refine And.intro ?_ ?_) | (intro h; first | exact Bool.noConfusion h | (simp at h; done) | simp at h | skip) | refine eqv_len_map ?_ | refine eqv_zero ?_ | refine eqv_wrap (by omega) (by omega) ?_ | refine eqv_to _ (set_map rfl rfl) ?_ | refine ⟨_, _, (by first | rfl | assumption), at_map (by assumption), ?_⟩ | refine ⟨_, at_map (by assumption), (by decide), ?_⟩ | refine ⟨_, at_map (by assumption), ?_⟩ | (refine (?_ : _ ≤ 140737488355328); simp [rowsLen] <;> omega) | (refine (?_ : _ ≤ 9223372036854775807); simp [rowsLen] <;> omega) | refine idx_sl (at_map (by assumption)) (by omega) ?_ | refine idx_ms _ (by first | rfl | assumption) (by first | assumption | omega) ?_ | fail); all_goals try (change retOk _ _ _ _; refine ret_pure rfl trivial ?_)
    refine code_loop (fun i : Nat => ⟨[(6, vint .i64 i), (5, .ms 1 1 0 n.nodes.toNat), (2, .ptr 0 2 0 0), (1, encI l)],
        [some ⟨24, 2, false, .box [.pv (ei n.nodes), .pv (.sl 5 (n.es.map encE))]⟩, some ⟨3, 1, false, .p (encS (sumsOf n.nodes.toNat ((n.es.zip l).take i)))⟩]⟩)
      (fun i => i ≤ n.es.length ∧ ((n.es.zip l).take i).all inB = true) (fun i => n.es.length - i) ⟨0, by simp, ⟨[0, 1], rfl, rfl, ⟨rfl, rfl, trivial⟩, rfl, rfl, rfl, rfl, trivial⟩⟩ ?_
    intro i hi
    repeat' (first | (exact (rfl : allOne _ = true)) | exact trivial | (refine (?_ : _ ≠ _); omega) | (refine (?_ : srcLen _ = rowsLen _); rfl) | (intro h; exact absurd h (Nat.succ_ne_zero _)) | (intro h; exact absurd h (Nat.not_lt_zero _))  | (exact (Nat.le_of_ble_eq_true rfl)) | (exact (by kernel_rfl : drawOk _ _ = true)) | refine ops_cons ?_ | refine ops_nil ?_ | refine opsD_cons ?_ | refine opsD_nil ?_ | refine any_step ?_ | refine any_nil ?_ | refine code_seq ?_ | refine code_region ?_ | refine code_cond ?_ | refine code_block ?_ | refine code_scope ?_ | refine code_skip ?_ | refine code_ret ?_ | refine code_exit ?_ | (refine And.intro ?_ ?_) | (intro h; first | exact Bool.noConfusion h | (simp at h; done) | simp at h | skip) | refine eqv_len_map ?_ | refine eqv_zero ?_ | refine eqv_wrap (by omega) (by omega) ?_ | refine eqv_to _ (set_map rfl rfl) ?_ | refine ⟨_, _, (by first | rfl | assumption), at_map (by assumption), ?_⟩ | refine ⟨_, at_map (by assumption), (by decide), ?_⟩ | refine ⟨_, at_map (by assumption), ?_⟩ | (refine (?_ : _ ≤ 140737488355328); simp [rowsLen] <;> omega) | (refine (?_ : _ ≤ 9223372036854775807); simp [rowsLen] <;> omega) | refine idx_sl (at_map (by assumption)) (by omega) ?_ | refine idx_ms _ (by first | rfl | assumption) (by first | assumption | omega) ?_ | fail); all_goals try (change retOk _ _ _ _; refine ret_pure rfl trivial ?_)
    case' refine_1 =>
      obtain ⟨e, he⟩ := getE (show i < n.es.length by omega)
      obtain ⟨f, hf⟩ := getE (show i < l.length by omega)
      obtain ⟨a, b, ha, hb, hak, hbk, hs1, hs2⟩ : ∃ a b : Nat, e.to = ↑a ∧ e.fr = ↑b ∧ a < n.nodes.toNat ∧ b < n.nodes.toNat ∧ 0 ≤ e.ls ∧ e.mo ≤ 1000 := by
        have := v4 e (List.mem_of_getElem? he)
        simp [soundB] at this
        exact ⟨e.to.toNat, e.fr.toNat, by omega, by omega, by omega, by omega, by omega, by omega⟩
      have hz : (n.es.zip l).take (i + 1) = (n.es.zip l).take i ++ [(e, f)] := zip_take he hf
      have hbd := exc_bound ((n.es.zip l).take i) (in_bound (fun e he => v4 e he) hi.2)
      have hlz : ((n.es.zip l).take i).length ≤ 8192 := by simp; omega
      have hba := hbd a
      have hbb := hbd b
      have hga : (sumsOf n.nodes.toNat ((n.es.zip l).take i))[b]? = some (exc ((n.es.zip l).take i) b) := sums_get hbk
      have hgb := sums_get2 (z := (n.es.zip l).take i) (x := exc ((n.es.zip l).take i) b - f) (a := b) hak
      have hst := sums_step' (z := (n.es.zip l).take i) (e := e) (f := f) ha hb hak hbk
      rw [hgb, ← hz] at hst
      repeat' (first | (exact (rfl : allOne _ = true)) | exact trivial | (refine (?_ : _ ≠ _); omega) | (refine (?_ : srcLen _ = rowsLen _); rfl) | (intro h; exact absurd h (Nat.succ_ne_zero _)) | (intro h; exact absurd h (Nat.not_lt_zero _))  | (exact (Nat.le_of_ble_eq_true rfl)) | (exact (by kernel_rfl : drawOk _ _ = true)) | refine ops_cons ?_ | refine ops_nil ?_ | refine opsD_cons ?_ | refine opsD_nil ?_ | refine any_step ?_ | refine any_nil ?_ | refine code_seq ?_ | refine code_region ?_ | refine code_cond ?_ | refine code_block ?_ | refine code_scope ?_ | refine code_skip ?_ | refine code_ret ?_ | refine code_exit ?_ | (refine And.intro ?_ ?_) | (intro h; first | exact Bool.noConfusion h | (simp at h; done) | simp at h | skip) | refine eqv_len_map ?_ | refine eqv_zero ?_ | refine eqv_wrap (by omega) (by omega) ?_ | refine eqv_to _ (set_map rfl rfl) ?_ | refine ⟨_, _, (by first | rfl | assumption), at_map (by assumption), ?_⟩ | refine ⟨_, at_map (by assumption), (by decide), ?_⟩ | refine ⟨_, at_map (by assumption), ?_⟩ | (refine (?_ : _ ≤ 140737488355328); simp [rowsLen] <;> omega) | (refine (?_ : _ ≤ 9223372036854775807); simp [rowsLen] <;> omega) | refine idx_sl (at_map (by assumption)) (by omega) ?_ | refine idx_ms _ (by first | rfl | assumption) (by first | assumption | omega) ?_ | fail); all_goals try (change retOk _ _ _ _; refine ret_pure rfl trivial ?_)
      all_goals try (refine ⟨i + 1, ⟨by omega, ?_⟩, by omega, ⟨[0, 1], rfl, rfl, ⟨rfl, (by rw [← hst]; rfl), trivial⟩, rfl, rfl, rfl, rfl, trivial⟩⟩)
      all_goals first
        | (rw [hz, List.all_append, hi.2]; simp [inB]; omega)
        | (refine congrArg vbool (balB_bad he hf ?_).symm; omega)
    case' refine_2 =>
      have hall : (n.es.zip l).all inB = true := by
        rw [← List.take_of_length_le (l := n.es.zip l) (i := i) (by simp; omega)]; exact hi.2
      have hze : (n.es.zip l).take i = n.es.zip l := List.take_of_length_le (by simp; omega)
      rw [hze]
      refine code_loop (fun j : Nat => ⟨[(8, vint .i64 j), (5, .ms 1 1 0 n.nodes.toNat)],
          [none, some ⟨3, 1, false, .p (encS (sumsOf n.nodes.toNat (n.es.zip l)))⟩]⟩)
        (fun j => j ≤ n.nodes.toNat ∧ ((sumsOf n.nodes.toNat (n.es.zip l)).take j).all (fun x => decide (x = 0)) = true) (fun j => n.nodes.toNat - j) ⟨0, by simp, ⟨[0, 1], rfl, rfl, ⟨rfl, trivial⟩, rfl, rfl, trivial⟩⟩ ?_
      intro j hj
      repeat' (first | (exact (rfl : allOne _ = true)) | exact trivial | (refine (?_ : _ ≠ _); omega) | (refine (?_ : srcLen _ = rowsLen _); rfl) | (intro h; exact absurd h (Nat.succ_ne_zero _)) | (intro h; exact absurd h (Nat.not_lt_zero _))  | (exact (Nat.le_of_ble_eq_true rfl)) | (exact (by kernel_rfl : drawOk _ _ = true)) | refine ops_cons ?_ | refine ops_nil ?_ | refine opsD_cons ?_ | refine opsD_nil ?_ | refine any_step ?_ | refine any_nil ?_ | refine code_seq ?_ | refine code_region ?_ | refine code_cond ?_ | refine code_block ?_ | refine code_scope ?_ | refine code_skip ?_ | refine code_ret ?_ | refine code_exit ?_ | (refine And.intro ?_ ?_) | (intro h; first | exact Bool.noConfusion h | (simp at h; done) | simp at h | skip) | refine eqv_len_map ?_ | refine eqv_zero ?_ | refine eqv_wrap (by omega) (by omega) ?_ | refine eqv_to _ (set_map rfl rfl) ?_ | refine ⟨_, _, (by first | rfl | assumption), at_map (by assumption), ?_⟩ | refine ⟨_, at_map (by assumption), (by decide), ?_⟩ | refine ⟨_, at_map (by assumption), ?_⟩ | (refine (?_ : _ ≤ 140737488355328); simp [rowsLen] <;> omega) | (refine (?_ : _ ≤ 9223372036854775807); simp [rowsLen] <;> omega) | refine idx_sl (at_map (by assumption)) (by omega) ?_ | refine idx_ms _ (by first | rfl | assumption) (by first | assumption | omega) ?_ | fail); all_goals try (change retOk _ _ _ _; refine ret_pure rfl trivial ?_)
      case' refine_1 =>
        have hg := sums_get (z := n.es.zip l) (show j < n.nodes.toNat by omega)
        repeat' (first | (exact (rfl : allOne _ = true)) | exact trivial | (refine (?_ : _ ≠ _); omega) | (refine (?_ : srcLen _ = rowsLen _); rfl) | (intro h; exact absurd h (Nat.succ_ne_zero _)) | (intro h; exact absurd h (Nat.not_lt_zero _))  | (exact (Nat.le_of_ble_eq_true rfl)) | (exact (by kernel_rfl : drawOk _ _ = true)) | refine ops_cons ?_ | refine ops_nil ?_ | refine opsD_cons ?_ | refine opsD_nil ?_ | refine any_step ?_ | refine any_nil ?_ | refine code_seq ?_ | refine code_region ?_ | refine code_cond ?_ | refine code_block ?_ | refine code_scope ?_ | refine code_skip ?_ | refine code_ret ?_ | refine code_exit ?_ | (refine And.intro ?_ ?_) | (intro h; first | exact Bool.noConfusion h | (simp at h; done) | simp at h | skip) | refine eqv_len_map ?_ | refine eqv_zero ?_ | refine eqv_wrap (by omega) (by omega) ?_ | refine eqv_to _ (set_map rfl rfl) ?_ | refine ⟨_, _, (by first | rfl | assumption), at_map (by assumption), ?_⟩ | refine ⟨_, at_map (by assumption), (by decide), ?_⟩ | refine ⟨_, at_map (by assumption), ?_⟩ | (refine (?_ : _ ≤ 140737488355328); simp [rowsLen] <;> omega) | (refine (?_ : _ ≤ 9223372036854775807); simp [rowsLen] <;> omega) | refine idx_sl (at_map (by assumption)) (by omega) ?_ | refine idx_ms _ (by first | rfl | assumption) (by first | assumption | omega) ?_ | fail); all_goals try (change retOk _ _ _ _; refine ret_pure rfl trivial ?_)
        all_goals try (refine ⟨j + 1, ⟨by omega, ?_⟩, by omega, ⟨[0, 1], rfl, rfl, ⟨rfl, trivial⟩, rfl, rfl, trivial⟩⟩; rw [all_take_succ hg, hj.2]; simp [*]; done)
        all_goals refine congrArg vbool (balB_sum (List.mem_of_getElem? hg) (by assumption)).symm
      case' refine_2 =>
        have : (sumsOf n.nodes.toNat (n.es.zip l)).all (fun x => decide (x = 0)) = true := by
          rw [← List.take_of_length_le (l := sumsOf n.nodes.toNat (n.es.zip l)) (i := j) (by simp [sumsOf]; omega)]; exact hj.2
        simp [balB, hv, hl, hall, this, vbool]
  all_goals
    refine congrArg vbool ?_
    simp [balB, *]
    try omega

end Go.Proofs.Ytlhakdmenohdnaa.Cw
