/-
  Part 7 of the proof (P13, Y5, Y6, Y7, P15, P14, P16, P17, P18, P19): what later parts use. No conditions.
-/
import Derived.Laws.AppendOwn
import Derived.WalkKit
import Derived.Deep.LoopGhost
import Derived.Lib.Walk
import Derived.Lib.SliceRun
import Derived.Shelf.RegionOpenPlain
import Derived.Test.YtbcacaodfpgflaaGreatDoorYG6

/-
  Contracts: the reference's lists of a class; changes in order; the change of a class; equal changes.
-/
namespace Go.Proofs.YtbcacaodfpgflaaGreatDoor.Cw
open Go Go.Cw Go.Proofs
set_option linter.unusedVariables false
set_option maxRecDepth 100000
set_option maxHeartbeats 8000000

theorem c_rof0 (l : List Sess) (c : Str) (hl : l.length ≤ 1000000000) : PCall Tryz.prog 33 [.pv (encSess l), .pv (es c)] (fun r => Leq r (.pv (encSess (ofC l c)))) := by
  refine acall_of tok mixed 28 rfl (fn := Tryz.f33) (c := Tryz.f33.body.getD .skip) (by kernel_rfl) (by kernel_rfl) (by kernel_rfl) rfl 0 rfl ?_
  repeat' (first | refine o1 ?_ | refine o2 ?_ | refine k1 ?_ | refine k2 ?_ | refine k3 ?_ | refine k4 ?_ | refine k6 ?_ | refine k7 ?_ | refine k8 ?_ | refine And.intro ?_ ?_ | exact trivial | refine o3 ?_ | refine o4 ?_ | refine o5 ?_ | refine o6 ?_ | refine k5 ?_ | (intro h; first | exact Bool.noConfusion h | exact nz _ h | exact nl h | (simp at h; done) | (simp at h; first | (exfalso; omega) | skip) | skip) | (change retOk _ _ _ _; refine ret_pure rfl trivial ?_) | exact (rfl : allOne _ = true) | (refine (?_ : (0 : Int) ≤ _); omega) | (refine (?_ : _ ≠ _); omega) | (refine (?_ : srcLen _ = rowsLen _); rfl) | exact Nat.le_of_ble_eq_true rfl | exact (by kernel_rfl : drawOk _ _ = true) | refine eqv_len_map ?_ | refine eqv_size ?_ | refine eqv_put (eqv_ck ?_) | refine eqv_zero ?_ | refine eqv_wrap (by omega) (by omega) ?_ | refine eqv_u64 (by omega) (by omega) ?_ | refine eqv_u8 (by omega) (by omega) ?_ | refine eqv_to _ (set_map rfl rfl) ?_ | refine ⟨_, _, (by first | rfl | assumption), at_map (by assumption), ?_⟩ | refine ⟨_, _, (by first | rfl | assumption), (by assumption), ?_⟩ | refine ⟨_, at_map (by assumption), (by decide), ?_⟩ | refine ⟨_, at_map (by assumption), ?_⟩ | (refine (?_ : _ ≤ 140737488355328); simp [rowsLen] <;> omega) | (refine (?_ : _ ≤ 9223372036854775807); simp [rowsLen] <;> omega) | (refine (?_ : _ = rowsLen _); simp [rowsLen] <;> omega) | refine eqv_to _ (app_row rfl) (eqv_to _ app_len ?_) | refine eqv_to _ (app_first rfl) (eqv_to 1 rfl ?_) | refine idx_sl (at_map (by assumption)) (by omega) ?_ | refine idx_ms _ (by first | rfl | assumption) (by first | assumption | omega) ?_ | fail)
  refine loop_for (fun i : Nat => [(0, .pv (encSess l)), (1, .pv (es c)), (5, slP 0 6 ((ofC (l.take i) c).map Sess.row)), (6, vint .i64 i)]) (fun i => [obP 51 6 ((ofC (l.take i) c).map Sess.row)]) (fun i => i ≤ l.length) (fun i => l.length - i) 0 (Nat.zero_le _) ?_ ?_
  · exact back [0] rfl rfl (by repeat' (first | exact trivial | exact rfl | exact ren_get rfl | refine kept_ob rfl ?_ | exact ⟨_, rfl, ALe.refl⟩ | refine And.intro ?_ ?_)) (by repeat' (first | exact trivial | exact rfl | exact ren_get rfl | refine kept_ob rfl ?_ | exact ⟨_, rfl, ALe.refl⟩ | refine And.intro ?_ ?_))
  intro i hi
  rcases Nat.lt_or_ge i l.length with hlt | hge
  · obtain ⟨s, hs⟩ := getE hlt
    have ht := ofC_t (c := c) hs
    have hf := ofC_f (c := c) hs
    have hn := ofC_len (l := l) (c := c) (i := i)
    generalize ofC (l.take i) c = L at *
    repeat' (first | (refine fv_sl ?_) | (refine fh_ob ?_) | ((refine o_app rfl rfl rfl rfl rfl rfl rfl rfl rfl rfl rfl (by rw [List.length_map]; omega) (by rw [List.length_map]; omega) ?_)) | refine o1 ?_ | refine o2 ?_ | refine k1 ?_ | refine k2 ?_ | refine k3 ?_ | refine k4 ?_ | refine k6 ?_ | refine k7 ?_ | refine k8 ?_ | refine And.intro ?_ ?_ | exact trivial | refine o3 ?_ | refine o4 ?_ | refine o5 ?_ | refine o6 ?_ | refine k5 ?_ | (intro h; first | exact Bool.noConfusion h | exact nz _ h | exact nl h | (simp at h; done) | (simp at h; first | (exfalso; omega) | skip) | skip) | (change retOk _ _ _ _; refine ret_pure rfl trivial ?_) | exact (rfl : allOne _ = true) | (refine (?_ : (0 : Int) ≤ _); omega) | (refine (?_ : _ ≠ _); omega) | (refine (?_ : srcLen _ = rowsLen _); rfl) | exact Nat.le_of_ble_eq_true rfl | exact (by kernel_rfl : drawOk _ _ = true) | refine eqv_len_map ?_ | refine eqv_size ?_ | refine eqv_put (eqv_ck ?_) | refine eqv_zero ?_ | refine eqv_wrap (by omega) (by omega) ?_ | refine eqv_u64 (by omega) (by omega) ?_ | refine eqv_u8 (by omega) (by omega) ?_ | refine eqv_to _ (set_map rfl rfl) ?_ | refine ⟨_, _, (by first | rfl | assumption), at_map (by assumption), ?_⟩ | refine ⟨_, _, (by first | rfl | assumption), (by assumption), ?_⟩ | refine ⟨_, at_map (by assumption), (by decide), ?_⟩ | refine ⟨_, at_map (by assumption), ?_⟩ | (refine (?_ : _ ≤ 140737488355328); simp [rowsLen] <;> omega) | (refine (?_ : _ ≤ 9223372036854775807); simp [rowsLen] <;> omega) | (refine (?_ : _ = rowsLen _); simp [rowsLen] <;> omega) | refine eqv_to _ (app_row rfl) (eqv_to _ app_len ?_) | refine eqv_to _ (app_first rfl) (eqv_to 1 rfl ?_) | refine idx_sl (at_map (by assumption)) (by omega) ?_ | refine idx_ms _ (by first | rfl | assumption) (by first | assumption | omega) ?_ | fail)
    · refine ⟨i + 1, hlt, by omega, ?_⟩
      rw [ht h, map_snoc, sl_app, ob_app]
      exact back [2] rfl rfl (by repeat' (first | exact trivial | exact rfl | exact ren_get rfl | refine kept_ob rfl ?_ | exact ⟨_, rfl, ALe.refl⟩ | refine And.intro ?_ ?_)) (by repeat' (first | exact trivial | exact rfl | exact ren_get rfl | refine kept_ob rfl ?_ | exact ⟨_, rfl, ALe.refl⟩ | refine And.intro ?_ ?_))
    · refine ⟨i + 1, hlt, by omega, ?_⟩
      rw [hf h]
      exact back [0] rfl rfl (by repeat' (first | exact trivial | exact rfl | exact ren_get rfl | refine kept_ob rfl ?_ | exact ⟨_, rfl, ALe.refl⟩ | refine And.intro ?_ ?_)) (by repeat' (first | exact trivial | exact rfl | exact ren_get rfl | refine kept_ob rfl ?_ | exact ⟨_, rfl, ALe.refl⟩ | refine And.intro ?_ ?_))
  · obtain rfl : i = l.length := by omega
    rw [List.take_length]
    repeat' (first | (refine fv_sl ?_) | (refine fh_ob ?_) | refine o1 ?_ | refine o2 ?_ | refine k1 ?_ | refine k2 ?_ | refine k3 ?_ | refine k4 ?_ | refine k6 ?_ | refine k7 ?_ | refine k8 ?_ | refine And.intro ?_ ?_ | exact trivial | refine o3 ?_ | refine o4 ?_ | refine o5 ?_ | refine o6 ?_ | refine k5 ?_ | (intro h; first | exact Bool.noConfusion h | exact nz _ h | exact nl h | (simp at h; done) | (simp at h; first | (exfalso; omega) | skip) | skip) | (change retOk _ _ _ _; refine ret_pure rfl trivial ?_) | exact (rfl : allOne _ = true) | (refine (?_ : (0 : Int) ≤ _); omega) | (refine (?_ : _ ≠ _); omega) | (refine (?_ : srcLen _ = rowsLen _); rfl) | exact Nat.le_of_ble_eq_true rfl | exact (by kernel_rfl : drawOk _ _ = true) | refine eqv_len_map ?_ | refine eqv_size ?_ | refine eqv_put (eqv_ck ?_) | refine eqv_zero ?_ | refine eqv_wrap (by omega) (by omega) ?_ | refine eqv_u64 (by omega) (by omega) ?_ | refine eqv_u8 (by omega) (by omega) ?_ | refine eqv_to _ (set_map rfl rfl) ?_ | refine ⟨_, _, (by first | rfl | assumption), at_map (by assumption), ?_⟩ | refine ⟨_, _, (by first | rfl | assumption), (by assumption), ?_⟩ | refine ⟨_, at_map (by assumption), (by decide), ?_⟩ | refine ⟨_, at_map (by assumption), ?_⟩ | (refine (?_ : _ ≤ 140737488355328); simp [rowsLen] <;> omega) | (refine (?_ : _ ≤ 9223372036854775807); simp [rowsLen] <;> omega) | (refine (?_ : _ = rowsLen _); simp [rowsLen] <;> omega) | refine eqv_to _ (app_row rfl) (eqv_to _ app_len ?_) | refine eqv_to _ (app_first rfl) (eqv_to 1 rfl ?_) | refine idx_sl (at_map (by assumption)) (by omega) ?_ | refine idx_ms _ (by first | rfl | assumption) (by first | assumption | omega) ?_ | fail)
    exact ret_sl rfl ⟨ALe.refl⟩ leq_down
theorem c_rof (l : List Sess) (c : Str) (hl : l.length ≤ 1000000000) : PCall Tryz.prog 33 [.pv (encSess l), .pv (es c)] (fun r => r = .pv (encSess (ofC l c))) := (c_rof0 l c hl).weak fun r k => ⟨_, k.le, rfl⟩
theorem call_rof {l : List Sess} {c : Str} {H : Heap} {K : AV → Heap → Prop} (hl : l.length ≤ 1000000000) (hK : K (.pv (encSess (ofC l c))) H) : vcFun Tryz.prog 33 [.pv (encSess l), .pv (es c)] H K := by
  refine call_frz (as0 := [.pv (encSess l), .pv (es c)]) rfl (by repeat' (first | trivial | refine And.intro ?_ ?_ | (show 0 + _ ≤ List.length _; simp))) ALeL.refl (c_rof l c hl) ?_
  rintro r rfl
  exact hK
/-- Lists of changes whose lists are not too long. -/
def ChgsL (c : List Chg) : Prop := ∀ x ∈ c, x.bef.length ≤ 2199023255552 ∧ x.aft.length ≤ 2199023255552
def chgOk (c : List Chg) (i : Nat) : Prop := ∀ x, c[i]? = some x → (∀ y, 0 < i → c[i - 1]? = some y → sLt y.cls x.cls = true) ∧ x.bef ≠ x.aft
theorem ordered_all {c : List Chg} (h : ∀ j, j < c.length → chgOk c j) : orderedP c := by
  refine ⟨fun i x y h1 h2 => ?_, fun x hx => ?_⟩
  · exact (h (i + 1) (List.getElem?_eq_some_iff.1 h2).1 y h2).1 x (by omega) (by simpa using h1)
  · obtain ⟨j, hj⟩ := List.getElem?_of_mem hx
    exact (h j (List.getElem?_eq_some_iff.1 hj).1 x hj).2
theorem ordered_no {c : List Chg} {i : Nat} {x : Chg} (hx : c[i]? = some x) (h : ¬ chgOk c i) : ¬ orderedP c := fun k => h fun y hy => by
  rw [hx] at hy; cases hy
  refine ⟨fun z h0 hz => ?_, k.2 x (List.mem_of_getElem? hx)⟩
  exact k.1 (i - 1) z x hz (by rwa [Nat.sub_add_cancel (by omega)])
theorem sle_f {x y : Str} (h : sLe x y = false) : sLt y x = true := by
  unfold sLe at h
  rw [Bool.or_eq_false_iff] at h
  cases hy : sLt y x with
  | true => rfl
  | false => exact absurd (sLt_conn h.1 hy) (sEq_f.1 h.2)
theorem sle_t {x y : Str} (h : sLe x y = true) : ¬ sLt y x = true := fun k => by
  unfold sLe at h
  rw [Bool.or_eq_true] at h
  rcases h with h | h
  · rw [sLt_asym h] at k; cases k
  · rw [sEq_iff.1 h, sLt_self] at k; cases k
theorem chg_ok0 {c : List Chg} {x : Chg} (hx : c[0]? = some x) (h : x.bef ≠ x.aft) : chgOk c 0 := fun y hy => by
  rw [hx] at hy; cases hy
  exact ⟨fun z h0 => by omega, h⟩
theorem chg_okS {c : List Chg} {i : Nat} {x y : Chg} (hx : c[i + 1]? = some x) (hy : c[i]? = some y) (h : sLe x.cls y.cls = false) (hb : x.bef ≠ x.aft) : chgOk c (i + 1) := fun z hz => by
  rw [hx] at hz; cases hz
  refine ⟨fun u _ hu => ?_, hb⟩
  have e : i + 1 - 1 = i := by omega
  rw [e, hy] at hu; cases hu
  exact sle_f h
theorem chg_noS {c : List Chg} {i : Nat} {x y : Chg} (hx : c[i + 1]? = some x) (hy : c[i]? = some y) (h : sLe x.cls y.cls = true) : ¬ chgOk c (i + 1) := fun k =>
  sle_t h ((k x hx).1 y (by omega) hy)
theorem c_ord34 (c : List Chg) (hc : ChgsL c) (hn : c.length ≤ 1000000000) : PCall Tryz.prog 34 [.pv (encChgs c)] (fun r => r = vbool (pB (orderedP c))) := by
  refine acall_of tok mixed 33 rfl (fn := Tryz.f34) (c := Tryz.f34.body.getD .skip) (by kernel_rfl) (by kernel_rfl) (by kernel_rfl) rfl 0 rfl ?_
  repeat' (first | refine o1 ?_ | refine o2 ?_ | refine k1 ?_ | refine k2 ?_ | refine k3 ?_ | refine k4 ?_ | refine k6 ?_ | refine k7 ?_ | refine k8 ?_ | refine And.intro ?_ ?_ | exact trivial | refine o3 ?_ | refine o4 ?_ | refine o5 ?_ | refine o6 ?_ | refine k5 ?_ | (intro h; first | exact Bool.noConfusion h | exact nz _ h | exact nl h | (simp at h; done) | (simp at h; first | (exfalso; omega) | skip) | skip) | (change retOk _ _ _ _; refine ret_pure rfl trivial ?_) | exact (rfl : allOne _ = true) | (refine (?_ : (0 : Int) ≤ _); omega) | (refine (?_ : _ ≠ _); omega) | (refine (?_ : srcLen _ = rowsLen _); rfl) | exact Nat.le_of_ble_eq_true rfl | exact (by kernel_rfl : drawOk _ _ = true) | refine eqv_len_map ?_ | refine eqv_size ?_ | refine eqv_put (eqv_ck ?_) | refine eqv_zero ?_ | refine eqv_wrap (by omega) (by omega) ?_ | refine eqv_u64 (by omega) (by omega) ?_ | refine eqv_u8 (by omega) (by omega) ?_ | refine eqv_to _ (set_map rfl rfl) ?_ | refine ⟨_, _, (by first | rfl | assumption), at_map (by assumption), ?_⟩ | refine ⟨_, _, (by first | rfl | assumption), (by assumption), ?_⟩ | refine ⟨_, at_map (by assumption), (by decide), ?_⟩ | refine ⟨_, at_map (by assumption), ?_⟩ | (refine (?_ : _ ≤ 140737488355328); simp [rowsLen] <;> omega) | (refine (?_ : _ ≤ 9223372036854775807); simp [rowsLen] <;> omega) | (refine (?_ : _ = rowsLen _); simp [rowsLen] <;> omega) | refine eqv_to _ (app_row rfl) (eqv_to _ app_len ?_) | refine eqv_to _ (app_first rfl) (eqv_to 1 rfl ?_) | refine idx_sl (at_map (by assumption)) (by omega) ?_ | refine idx_ms _ (by first | rfl | assumption) (by first | assumption | omega) ?_ | fail)
  refine loop_at (fun i : Nat => [(7, vint .i64 i)]) (fun _ => []) (fun i => i ≤ c.length ∧ ∀ j, j < i → chgOk c j) (fun i => c.length - i) 0 ⟨Nat.zero_le _, fun j hj => by omega⟩ (by repeat' (first | exact trivial | exact rfl | exact ⟨_, rfl, ALe.refl⟩ | refine And.intro ?_ ?_)) (by repeat' (first | exact trivial | exact rfl | exact ⟨_, rfl, ALe.refl⟩ | refine And.intro ?_ ?_)) ?_
  intro i ⟨hi, hall⟩
  rcases Nat.lt_or_ge i c.length with hlt | hge
  · obtain ⟨x, hx⟩ := getE hlt
    obtain ⟨h1, h2⟩ := hc x (List.mem_of_getElem? hx)
    have heq := c_equal x.bef x.aft h1 h2
    have hno := ordered_no hx
    by_cases hba : x.bef = x.aft
    · have hf : ¬ orderedP c := hno fun k => (k x hx).2 hba
      rw [pB_f hf]
      rw [pB_t hba] at heq
      rcases i with _ | i
      · repeat' (first | ((change vcFunD _ _ _ _ _; refine callD_eq rfl (by repeat' (first | trivial | refine And.intro ?_ ?_ | (show 0 + _ ≤ List.length _; simp))) ALeL.refl heq rfl ?_)) | ((change vcFun _ _ _ _ _; refine call_eq rfl (by repeat' (first | trivial | refine And.intro ?_ ?_ | (show 0 + _ ≤ List.length _; simp))) ALeL.refl heq rfl ?_)) | refine o1 ?_ | refine o2 ?_ | refine k1 ?_ | refine k2 ?_ | refine k3 ?_ | refine k4 ?_ | refine k6 ?_ | refine k7 ?_ | refine k8 ?_ | refine And.intro ?_ ?_ | exact trivial | refine o3 ?_ | refine o4 ?_ | refine o5 ?_ | refine o6 ?_ | refine k5 ?_ | (intro h; first | exact Bool.noConfusion h | exact nz _ h | exact nl h | (simp at h; done) | (simp at h; first | (exfalso; omega) | skip) | skip) | (change retOk _ _ _ _; refine ret_pure rfl trivial ?_) | exact (rfl : allOne _ = true) | (refine (?_ : (0 : Int) ≤ _); omega) | (refine (?_ : _ ≠ _); omega) | (refine (?_ : srcLen _ = rowsLen _); rfl) | exact Nat.le_of_ble_eq_true rfl | exact (by kernel_rfl : drawOk _ _ = true) | refine eqv_len_map ?_ | refine eqv_size ?_ | refine eqv_put (eqv_ck ?_) | refine eqv_zero ?_ | refine eqv_wrap (by omega) (by omega) ?_ | refine eqv_u64 (by omega) (by omega) ?_ | refine eqv_u8 (by omega) (by omega) ?_ | refine eqv_to _ (set_map rfl rfl) ?_ | refine ⟨_, _, (by first | rfl | assumption), at_map (by assumption), ?_⟩ | refine ⟨_, _, (by first | rfl | assumption), (by assumption), ?_⟩ | refine ⟨_, at_map (by assumption), (by decide), ?_⟩ | refine ⟨_, at_map (by assumption), ?_⟩ | (refine (?_ : _ ≤ 140737488355328); simp [rowsLen] <;> omega) | (refine (?_ : _ ≤ 9223372036854775807); simp [rowsLen] <;> omega) | (refine (?_ : _ = rowsLen _); simp [rowsLen] <;> omega) | refine eqv_to _ (app_row rfl) (eqv_to _ app_len ?_) | refine eqv_to _ (app_first rfl) (eqv_to 1 rfl ?_) | refine idx_sl (at_map (by assumption)) (by omega) ?_ | refine idx_ms _ (by first | rfl | assumption) (by first | assumption | omega) ?_ | fail)
        all_goals first
          | (exfalso; omega)
          | (exfalso; simp_all; done)
          | rfl
      · obtain ⟨y, hy⟩ := getE (show i < c.length by omega)
        repeat' (first | ((change vcFunD _ _ _ _ _; refine callD_eq rfl (by repeat' (first | trivial | refine And.intro ?_ ?_ | (show 0 + _ ≤ List.length _; simp))) ALeL.refl heq rfl ?_)) | ((change vcFun _ _ _ _ _; refine call_eq rfl (by repeat' (first | trivial | refine And.intro ?_ ?_ | (show 0 + _ ≤ List.length _; simp))) ALeL.refl heq rfl ?_)) | refine o1 ?_ | refine o2 ?_ | refine k1 ?_ | refine k2 ?_ | refine k3 ?_ | refine k4 ?_ | refine k6 ?_ | refine k7 ?_ | refine k8 ?_ | refine And.intro ?_ ?_ | exact trivial | refine o3 ?_ | refine o4 ?_ | refine o5 ?_ | refine o6 ?_ | refine k5 ?_ | (intro h; first | exact Bool.noConfusion h | exact nz _ h | exact nl h | (simp at h; done) | (simp at h; first | (exfalso; omega) | skip) | skip) | (change retOk _ _ _ _; refine ret_pure rfl trivial ?_) | exact (rfl : allOne _ = true) | (refine (?_ : (0 : Int) ≤ _); omega) | (refine (?_ : _ ≠ _); omega) | (refine (?_ : srcLen _ = rowsLen _); rfl) | exact Nat.le_of_ble_eq_true rfl | exact (by kernel_rfl : drawOk _ _ = true) | refine eqv_len_map ?_ | refine eqv_size ?_ | refine eqv_put (eqv_ck ?_) | refine eqv_zero ?_ | refine eqv_wrap (by omega) (by omega) ?_ | refine eqv_u64 (by omega) (by omega) ?_ | refine eqv_u8 (by omega) (by omega) ?_ | refine eqv_to _ (set_map rfl rfl) ?_ | refine ⟨_, _, (by first | rfl | assumption), at_map (by assumption), ?_⟩ | refine ⟨_, _, (by first | rfl | assumption), (by assumption), ?_⟩ | refine ⟨_, at_map (by assumption), (by decide), ?_⟩ | refine ⟨_, at_map (by assumption), ?_⟩ | (refine (?_ : _ ≤ 140737488355328); simp [rowsLen] <;> omega) | (refine (?_ : _ ≤ 9223372036854775807); simp [rowsLen] <;> omega) | (refine (?_ : _ = rowsLen _); simp [rowsLen] <;> omega) | refine eqv_to _ (app_row rfl) (eqv_to _ app_len ?_) | refine eqv_to _ (app_first rfl) (eqv_to 1 rfl ?_) | refine idx_sl (at_map (by assumption)) (by omega) ?_ | refine idx_ms _ (by first | rfl | assumption) (by first | assumption | omega) ?_ | fail)
        all_goals first
          | (exfalso; omega)
          | rfl
    · rw [pB_f hba] at heq
      rcases i with _ | i
      · repeat' (first | ((change vcFunD _ _ _ _ _; refine callD_eq rfl (by repeat' (first | trivial | refine And.intro ?_ ?_ | (show 0 + _ ≤ List.length _; simp))) ALeL.refl heq rfl ?_)) | ((change vcFun _ _ _ _ _; refine call_eq rfl (by repeat' (first | trivial | refine And.intro ?_ ?_ | (show 0 + _ ≤ List.length _; simp))) ALeL.refl heq rfl ?_)) | refine o1 ?_ | refine o2 ?_ | refine k1 ?_ | refine k2 ?_ | refine k3 ?_ | refine k4 ?_ | refine k6 ?_ | refine k7 ?_ | refine k8 ?_ | refine And.intro ?_ ?_ | exact trivial | refine o3 ?_ | refine o4 ?_ | refine o5 ?_ | refine o6 ?_ | refine k5 ?_ | (intro h; first | exact Bool.noConfusion h | exact nz _ h | exact nl h | (simp at h; done) | (simp at h; first | (exfalso; omega) | skip) | skip) | (change retOk _ _ _ _; refine ret_pure rfl trivial ?_) | exact (rfl : allOne _ = true) | (refine (?_ : (0 : Int) ≤ _); omega) | (refine (?_ : _ ≠ _); omega) | (refine (?_ : srcLen _ = rowsLen _); rfl) | exact Nat.le_of_ble_eq_true rfl | exact (by kernel_rfl : drawOk _ _ = true) | refine eqv_len_map ?_ | refine eqv_size ?_ | refine eqv_put (eqv_ck ?_) | refine eqv_zero ?_ | refine eqv_wrap (by omega) (by omega) ?_ | refine eqv_u64 (by omega) (by omega) ?_ | refine eqv_u8 (by omega) (by omega) ?_ | refine eqv_to _ (set_map rfl rfl) ?_ | refine ⟨_, _, (by first | rfl | assumption), at_map (by assumption), ?_⟩ | refine ⟨_, _, (by first | rfl | assumption), (by assumption), ?_⟩ | refine ⟨_, at_map (by assumption), (by decide), ?_⟩ | refine ⟨_, at_map (by assumption), ?_⟩ | (refine (?_ : _ ≤ 140737488355328); simp [rowsLen] <;> omega) | (refine (?_ : _ ≤ 9223372036854775807); simp [rowsLen] <;> omega) | (refine (?_ : _ = rowsLen _); simp [rowsLen] <;> omega) | refine eqv_to _ (app_row rfl) (eqv_to _ app_len ?_) | refine eqv_to _ (app_first rfl) (eqv_to 1 rfl ?_) | refine idx_sl (at_map (by assumption)) (by omega) ?_ | refine idx_ms _ (by first | rfl | assumption) (by first | assumption | omega) ?_ | fail)
        all_goals first
          | (exfalso; omega)
          | (exfalso; simp_all; done)
          | exact ⟨0 + 1, ⟨by omega, all_lt_succ hall (chg_ok0 hx hba)⟩, by omega, back [] rfl rfl trivial (by repeat' (first | exact trivial | exact rfl | exact ⟨_, rfl, ALe.refl⟩ | refine And.intro ?_ ?_))⟩
      · obtain ⟨y, hy⟩ := getE (show i < c.length by omega)
        repeat' (first | ((change vcFunD _ _ _ _ _; refine callD_eq rfl (by repeat' (first | trivial | refine And.intro ?_ ?_ | (show 0 + _ ≤ List.length _; simp))) ALeL.refl heq rfl ?_)) | ((change vcFun _ _ _ _ _; refine call_eq rfl (by repeat' (first | trivial | refine And.intro ?_ ?_ | (show 0 + _ ≤ List.length _; simp))) ALeL.refl heq rfl ?_)) | refine o1 ?_ | refine o2 ?_ | refine k1 ?_ | refine k2 ?_ | refine k3 ?_ | refine k4 ?_ | refine k6 ?_ | refine k7 ?_ | refine k8 ?_ | refine And.intro ?_ ?_ | exact trivial | refine o3 ?_ | refine o4 ?_ | refine o5 ?_ | refine o6 ?_ | refine k5 ?_ | (intro h; first | exact Bool.noConfusion h | exact nz _ h | exact nl h | (simp at h; done) | (simp at h; first | (exfalso; omega) | skip) | skip) | (change retOk _ _ _ _; refine ret_pure rfl trivial ?_) | exact (rfl : allOne _ = true) | (refine (?_ : (0 : Int) ≤ _); omega) | (refine (?_ : _ ≠ _); omega) | (refine (?_ : srcLen _ = rowsLen _); rfl) | exact Nat.le_of_ble_eq_true rfl | exact (by kernel_rfl : drawOk _ _ = true) | refine eqv_len_map ?_ | refine eqv_size ?_ | refine eqv_put (eqv_ck ?_) | refine eqv_zero ?_ | refine eqv_wrap (by omega) (by omega) ?_ | refine eqv_u64 (by omega) (by omega) ?_ | refine eqv_u8 (by omega) (by omega) ?_ | refine eqv_to _ (set_map rfl rfl) ?_ | refine ⟨_, _, (by first | rfl | assumption), at_map (by assumption), ?_⟩ | refine ⟨_, _, (by first | rfl | assumption), (by assumption), ?_⟩ | refine ⟨_, at_map (by assumption), (by decide), ?_⟩ | refine ⟨_, at_map (by assumption), ?_⟩ | (refine (?_ : _ ≤ 140737488355328); simp [rowsLen] <;> omega) | (refine (?_ : _ ≤ 9223372036854775807); simp [rowsLen] <;> omega) | (refine (?_ : _ = rowsLen _); simp [rowsLen] <;> omega) | refine eqv_to _ (app_row rfl) (eqv_to _ app_len ?_) | refine eqv_to _ (app_first rfl) (eqv_to 1 rfl ?_) | refine idx_sl (at_map (by assumption)) (by omega) ?_ | refine idx_ms _ (by first | rfl | assumption) (by first | assumption | omega) ?_ | fail)
        all_goals first
          | (exfalso; omega)
          | exact ⟨i + 1 + 1, ⟨by omega, all_lt_succ hall (chg_okS hx hy (by assumption) hba)⟩, by omega, back [] rfl rfl trivial (by repeat' (first | exact trivial | exact rfl | exact ⟨_, rfl, ALe.refl⟩ | refine And.intro ?_ ?_))⟩
          | exact congrArg vbool (pB_f (hno (chg_noS hx hy (by assumption)))).symm
  · have ht : orderedP c := ordered_all fun j hj => hall j (by omega)
    rw [pB_t ht]
    repeat' (first | refine o1 ?_ | refine o2 ?_ | refine k1 ?_ | refine k2 ?_ | refine k3 ?_ | refine k4 ?_ | refine k6 ?_ | refine k7 ?_ | refine k8 ?_ | refine And.intro ?_ ?_ | exact trivial | refine o3 ?_ | refine o4 ?_ | refine o5 ?_ | refine o6 ?_ | refine k5 ?_ | (intro h; first | exact Bool.noConfusion h | exact nz _ h | exact nl h | (simp at h; done) | (simp at h; first | (exfalso; omega) | skip) | skip) | (change retOk _ _ _ _; refine ret_pure rfl trivial ?_) | exact (rfl : allOne _ = true) | (refine (?_ : (0 : Int) ≤ _); omega) | (refine (?_ : _ ≠ _); omega) | (refine (?_ : srcLen _ = rowsLen _); rfl) | exact Nat.le_of_ble_eq_true rfl | exact (by kernel_rfl : drawOk _ _ = true) | refine eqv_len_map ?_ | refine eqv_size ?_ | refine eqv_put (eqv_ck ?_) | refine eqv_zero ?_ | refine eqv_wrap (by omega) (by omega) ?_ | refine eqv_u64 (by omega) (by omega) ?_ | refine eqv_u8 (by omega) (by omega) ?_ | refine eqv_to _ (set_map rfl rfl) ?_ | refine ⟨_, _, (by first | rfl | assumption), at_map (by assumption), ?_⟩ | refine ⟨_, _, (by first | rfl | assumption), (by assumption), ?_⟩ | refine ⟨_, at_map (by assumption), (by decide), ?_⟩ | refine ⟨_, at_map (by assumption), ?_⟩ | (refine (?_ : _ ≤ 140737488355328); simp [rowsLen] <;> omega) | (refine (?_ : _ ≤ 9223372036854775807); simp [rowsLen] <;> omega) | (refine (?_ : _ = rowsLen _); simp [rowsLen] <;> omega) | refine eqv_to _ (app_row rfl) (eqv_to _ app_len ?_) | refine eqv_to _ (app_first rfl) (eqv_to 1 rfl ?_) | refine idx_sl (at_map (by assumption)) (by omega) ?_ | refine idx_ms _ (by first | rfl | assumption) (by first | assumption | omega) ?_ | fail)
    all_goals first
      | (exfalso; omega)
      | rfl
theorem c_rord34 (c : List Chg) (hc : ChgsL c) (hn : c.length ≤ 1000000000) : PCall Tryz.prog 36 [.pv (encChgs c)] (fun r => r = vbool (pB (orderedP c))) := by
  refine acall_of tok mixed 39 rfl (fn := Tryz.f36) (c := Tryz.f36.body.getD .skip) (by kernel_rfl) (by kernel_rfl) (by kernel_rfl) rfl 0 rfl ?_
  repeat' (first | refine o1 ?_ | refine o2 ?_ | refine k1 ?_ | refine k2 ?_ | refine k3 ?_ | refine k4 ?_ | refine k6 ?_ | refine k7 ?_ | refine k8 ?_ | refine And.intro ?_ ?_ | exact trivial | refine o3 ?_ | refine o4 ?_ | refine o5 ?_ | refine o6 ?_ | refine k5 ?_ | (intro h; first | exact Bool.noConfusion h | exact nz _ h | exact nl h | (simp at h; done) | (simp at h; first | (exfalso; omega) | skip) | skip) | (change retOk _ _ _ _; refine ret_pure rfl trivial ?_) | exact (rfl : allOne _ = true) | (refine (?_ : (0 : Int) ≤ _); omega) | (refine (?_ : _ ≠ _); omega) | (refine (?_ : srcLen _ = rowsLen _); rfl) | exact Nat.le_of_ble_eq_true rfl | exact (by kernel_rfl : drawOk _ _ = true) | refine eqv_len_map ?_ | refine eqv_size ?_ | refine eqv_put (eqv_ck ?_) | refine eqv_zero ?_ | refine eqv_wrap (by omega) (by omega) ?_ | refine eqv_u64 (by omega) (by omega) ?_ | refine eqv_u8 (by omega) (by omega) ?_ | refine eqv_to _ (set_map rfl rfl) ?_ | refine ⟨_, _, (by first | rfl | assumption), at_map (by assumption), ?_⟩ | refine ⟨_, _, (by first | rfl | assumption), (by assumption), ?_⟩ | refine ⟨_, at_map (by assumption), (by decide), ?_⟩ | refine ⟨_, at_map (by assumption), ?_⟩ | (refine (?_ : _ ≤ 140737488355328); simp [rowsLen] <;> omega) | (refine (?_ : _ ≤ 9223372036854775807); simp [rowsLen] <;> omega) | (refine (?_ : _ = rowsLen _); simp [rowsLen] <;> omega) | refine eqv_to _ (app_row rfl) (eqv_to _ app_len ?_) | refine eqv_to _ (app_first rfl) (eqv_to 1 rfl ?_) | refine idx_sl (at_map (by assumption)) (by omega) ?_ | refine idx_ms _ (by first | rfl | assumption) (by first | assumption | omega) ?_ | fail)
  refine loop_at (fun i : Nat => [(3, vint .i64 i)]) (fun _ => []) (fun i => i ≤ c.length ∧ ∀ j, j < i → chgOk c j) (fun i => c.length - i) 0 ⟨Nat.zero_le _, fun j hj => by omega⟩ (by repeat' (first | exact trivial | exact rfl | exact ⟨_, rfl, ALe.refl⟩ | refine And.intro ?_ ?_)) (by repeat' (first | exact trivial | exact rfl | exact ⟨_, rfl, ALe.refl⟩ | refine And.intro ?_ ?_)) ?_
  intro i ⟨hi, hall⟩
  rcases Nat.lt_or_ge i c.length with hlt | hge
  · obtain ⟨x, hx⟩ := getE hlt
    obtain ⟨h1, h2⟩ := hc x (List.mem_of_getElem? hx)
    have heq := c_same x.bef x.aft h1 h2
    have hno := ordered_no hx
    by_cases hba : x.bef = x.aft
    · have hf : ¬ orderedP c := hno fun k => (k x hx).2 hba
      rw [pB_f hf]
      rw [pB_t hba] at heq
      rcases i with _ | i
      · repeat' (first | ((change vcFunD _ _ _ _ _; refine callD_eq rfl (by repeat' (first | trivial | refine And.intro ?_ ?_ | (show 0 + _ ≤ List.length _; simp))) ALeL.refl heq rfl ?_)) | ((change vcFun _ _ _ _ _; refine call_eq rfl (by repeat' (first | trivial | refine And.intro ?_ ?_ | (show 0 + _ ≤ List.length _; simp))) ALeL.refl heq rfl ?_)) | refine o1 ?_ | refine o2 ?_ | refine k1 ?_ | refine k2 ?_ | refine k3 ?_ | refine k4 ?_ | refine k6 ?_ | refine k7 ?_ | refine k8 ?_ | refine And.intro ?_ ?_ | exact trivial | refine o3 ?_ | refine o4 ?_ | refine o5 ?_ | refine o6 ?_ | refine k5 ?_ | (intro h; first | exact Bool.noConfusion h | exact nz _ h | exact nl h | (simp at h; done) | (simp at h; first | (exfalso; omega) | skip) | skip) | (change retOk _ _ _ _; refine ret_pure rfl trivial ?_) | exact (rfl : allOne _ = true) | (refine (?_ : (0 : Int) ≤ _); omega) | (refine (?_ : _ ≠ _); omega) | (refine (?_ : srcLen _ = rowsLen _); rfl) | exact Nat.le_of_ble_eq_true rfl | exact (by kernel_rfl : drawOk _ _ = true) | refine eqv_len_map ?_ | refine eqv_size ?_ | refine eqv_put (eqv_ck ?_) | refine eqv_zero ?_ | refine eqv_wrap (by omega) (by omega) ?_ | refine eqv_u64 (by omega) (by omega) ?_ | refine eqv_u8 (by omega) (by omega) ?_ | refine eqv_to _ (set_map rfl rfl) ?_ | refine ⟨_, _, (by first | rfl | assumption), at_map (by assumption), ?_⟩ | refine ⟨_, _, (by first | rfl | assumption), (by assumption), ?_⟩ | refine ⟨_, at_map (by assumption), (by decide), ?_⟩ | refine ⟨_, at_map (by assumption), ?_⟩ | (refine (?_ : _ ≤ 140737488355328); simp [rowsLen] <;> omega) | (refine (?_ : _ ≤ 9223372036854775807); simp [rowsLen] <;> omega) | (refine (?_ : _ = rowsLen _); simp [rowsLen] <;> omega) | refine eqv_to _ (app_row rfl) (eqv_to _ app_len ?_) | refine eqv_to _ (app_first rfl) (eqv_to 1 rfl ?_) | refine idx_sl (at_map (by assumption)) (by omega) ?_ | refine idx_ms _ (by first | rfl | assumption) (by first | assumption | omega) ?_ | fail)
        all_goals first
          | (exfalso; omega)
          | (exfalso; simp_all; done)
          | rfl
      · obtain ⟨y, hy⟩ := getE (show i < c.length by omega)
        repeat' (first | ((change vcFunD _ _ _ _ _; refine callD_eq rfl (by repeat' (first | trivial | refine And.intro ?_ ?_ | (show 0 + _ ≤ List.length _; simp))) ALeL.refl heq rfl ?_)) | ((change vcFun _ _ _ _ _; refine call_eq rfl (by repeat' (first | trivial | refine And.intro ?_ ?_ | (show 0 + _ ≤ List.length _; simp))) ALeL.refl heq rfl ?_)) | refine o1 ?_ | refine o2 ?_ | refine k1 ?_ | refine k2 ?_ | refine k3 ?_ | refine k4 ?_ | refine k6 ?_ | refine k7 ?_ | refine k8 ?_ | refine And.intro ?_ ?_ | exact trivial | refine o3 ?_ | refine o4 ?_ | refine o5 ?_ | refine o6 ?_ | refine k5 ?_ | (intro h; first | exact Bool.noConfusion h | exact nz _ h | exact nl h | (simp at h; done) | (simp at h; first | (exfalso; omega) | skip) | skip) | (change retOk _ _ _ _; refine ret_pure rfl trivial ?_) | exact (rfl : allOne _ = true) | (refine (?_ : (0 : Int) ≤ _); omega) | (refine (?_ : _ ≠ _); omega) | (refine (?_ : srcLen _ = rowsLen _); rfl) | exact Nat.le_of_ble_eq_true rfl | exact (by kernel_rfl : drawOk _ _ = true) | refine eqv_len_map ?_ | refine eqv_size ?_ | refine eqv_put (eqv_ck ?_) | refine eqv_zero ?_ | refine eqv_wrap (by omega) (by omega) ?_ | refine eqv_u64 (by omega) (by omega) ?_ | refine eqv_u8 (by omega) (by omega) ?_ | refine eqv_to _ (set_map rfl rfl) ?_ | refine ⟨_, _, (by first | rfl | assumption), at_map (by assumption), ?_⟩ | refine ⟨_, _, (by first | rfl | assumption), (by assumption), ?_⟩ | refine ⟨_, at_map (by assumption), (by decide), ?_⟩ | refine ⟨_, at_map (by assumption), ?_⟩ | (refine (?_ : _ ≤ 140737488355328); simp [rowsLen] <;> omega) | (refine (?_ : _ ≤ 9223372036854775807); simp [rowsLen] <;> omega) | (refine (?_ : _ = rowsLen _); simp [rowsLen] <;> omega) | refine eqv_to _ (app_row rfl) (eqv_to _ app_len ?_) | refine eqv_to _ (app_first rfl) (eqv_to 1 rfl ?_) | refine idx_sl (at_map (by assumption)) (by omega) ?_ | refine idx_ms _ (by first | rfl | assumption) (by first | assumption | omega) ?_ | fail)
        all_goals first
          | (exfalso; omega)
          | rfl
    · rw [pB_f hba] at heq
      rcases i with _ | i
      · repeat' (first | ((change vcFunD _ _ _ _ _; refine callD_eq rfl (by repeat' (first | trivial | refine And.intro ?_ ?_ | (show 0 + _ ≤ List.length _; simp))) ALeL.refl heq rfl ?_)) | ((change vcFun _ _ _ _ _; refine call_eq rfl (by repeat' (first | trivial | refine And.intro ?_ ?_ | (show 0 + _ ≤ List.length _; simp))) ALeL.refl heq rfl ?_)) | refine o1 ?_ | refine o2 ?_ | refine k1 ?_ | refine k2 ?_ | refine k3 ?_ | refine k4 ?_ | refine k6 ?_ | refine k7 ?_ | refine k8 ?_ | refine And.intro ?_ ?_ | exact trivial | refine o3 ?_ | refine o4 ?_ | refine o5 ?_ | refine o6 ?_ | refine k5 ?_ | (intro h; first | exact Bool.noConfusion h | exact nz _ h | exact nl h | (simp at h; done) | (simp at h; first | (exfalso; omega) | skip) | skip) | (change retOk _ _ _ _; refine ret_pure rfl trivial ?_) | exact (rfl : allOne _ = true) | (refine (?_ : (0 : Int) ≤ _); omega) | (refine (?_ : _ ≠ _); omega) | (refine (?_ : srcLen _ = rowsLen _); rfl) | exact Nat.le_of_ble_eq_true rfl | exact (by kernel_rfl : drawOk _ _ = true) | refine eqv_len_map ?_ | refine eqv_size ?_ | refine eqv_put (eqv_ck ?_) | refine eqv_zero ?_ | refine eqv_wrap (by omega) (by omega) ?_ | refine eqv_u64 (by omega) (by omega) ?_ | refine eqv_u8 (by omega) (by omega) ?_ | refine eqv_to _ (set_map rfl rfl) ?_ | refine ⟨_, _, (by first | rfl | assumption), at_map (by assumption), ?_⟩ | refine ⟨_, _, (by first | rfl | assumption), (by assumption), ?_⟩ | refine ⟨_, at_map (by assumption), (by decide), ?_⟩ | refine ⟨_, at_map (by assumption), ?_⟩ | (refine (?_ : _ ≤ 140737488355328); simp [rowsLen] <;> omega) | (refine (?_ : _ ≤ 9223372036854775807); simp [rowsLen] <;> omega) | (refine (?_ : _ = rowsLen _); simp [rowsLen] <;> omega) | refine eqv_to _ (app_row rfl) (eqv_to _ app_len ?_) | refine eqv_to _ (app_first rfl) (eqv_to 1 rfl ?_) | refine idx_sl (at_map (by assumption)) (by omega) ?_ | refine idx_ms _ (by first | rfl | assumption) (by first | assumption | omega) ?_ | fail)
        all_goals first
          | (exfalso; omega)
          | (exfalso; simp_all; done)
          | exact ⟨0 + 1, ⟨by omega, all_lt_succ hall (chg_ok0 hx hba)⟩, by omega, back [] rfl rfl trivial (by repeat' (first | exact trivial | exact rfl | exact ⟨_, rfl, ALe.refl⟩ | refine And.intro ?_ ?_))⟩
      · obtain ⟨y, hy⟩ := getE (show i < c.length by omega)
        repeat' (first | ((change vcFunD _ _ _ _ _; refine callD_eq rfl (by repeat' (first | trivial | refine And.intro ?_ ?_ | (show 0 + _ ≤ List.length _; simp))) ALeL.refl heq rfl ?_)) | ((change vcFun _ _ _ _ _; refine call_eq rfl (by repeat' (first | trivial | refine And.intro ?_ ?_ | (show 0 + _ ≤ List.length _; simp))) ALeL.refl heq rfl ?_)) | refine o1 ?_ | refine o2 ?_ | refine k1 ?_ | refine k2 ?_ | refine k3 ?_ | refine k4 ?_ | refine k6 ?_ | refine k7 ?_ | refine k8 ?_ | refine And.intro ?_ ?_ | exact trivial | refine o3 ?_ | refine o4 ?_ | refine o5 ?_ | refine o6 ?_ | refine k5 ?_ | (intro h; first | exact Bool.noConfusion h | exact nz _ h | exact nl h | (simp at h; done) | (simp at h; first | (exfalso; omega) | skip) | skip) | (change retOk _ _ _ _; refine ret_pure rfl trivial ?_) | exact (rfl : allOne _ = true) | (refine (?_ : (0 : Int) ≤ _); omega) | (refine (?_ : _ ≠ _); omega) | (refine (?_ : srcLen _ = rowsLen _); rfl) | exact Nat.le_of_ble_eq_true rfl | exact (by kernel_rfl : drawOk _ _ = true) | refine eqv_len_map ?_ | refine eqv_size ?_ | refine eqv_put (eqv_ck ?_) | refine eqv_zero ?_ | refine eqv_wrap (by omega) (by omega) ?_ | refine eqv_u64 (by omega) (by omega) ?_ | refine eqv_u8 (by omega) (by omega) ?_ | refine eqv_to _ (set_map rfl rfl) ?_ | refine ⟨_, _, (by first | rfl | assumption), at_map (by assumption), ?_⟩ | refine ⟨_, _, (by first | rfl | assumption), (by assumption), ?_⟩ | refine ⟨_, at_map (by assumption), (by decide), ?_⟩ | refine ⟨_, at_map (by assumption), ?_⟩ | (refine (?_ : _ ≤ 140737488355328); simp [rowsLen] <;> omega) | (refine (?_ : _ ≤ 9223372036854775807); simp [rowsLen] <;> omega) | (refine (?_ : _ = rowsLen _); simp [rowsLen] <;> omega) | refine eqv_to _ (app_row rfl) (eqv_to _ app_len ?_) | refine eqv_to _ (app_first rfl) (eqv_to 1 rfl ?_) | refine idx_sl (at_map (by assumption)) (by omega) ?_ | refine idx_ms _ (by first | rfl | assumption) (by first | assumption | omega) ?_ | fail)
        all_goals first
          | (exfalso; omega)
          | exact ⟨i + 1 + 1, ⟨by omega, all_lt_succ hall (chg_okS hx hy (by assumption) hba)⟩, by omega, back [] rfl rfl trivial (by repeat' (first | exact trivial | exact rfl | exact ⟨_, rfl, ALe.refl⟩ | refine And.intro ?_ ?_))⟩
          | exact congrArg vbool (pB_f (hno (chg_noS hx hy (by assumption)))).symm
  · have ht : orderedP c := ordered_all fun j hj => hall j (by omega)
    rw [pB_t ht]
    repeat' (first | refine o1 ?_ | refine o2 ?_ | refine k1 ?_ | refine k2 ?_ | refine k3 ?_ | refine k4 ?_ | refine k6 ?_ | refine k7 ?_ | refine k8 ?_ | refine And.intro ?_ ?_ | exact trivial | refine o3 ?_ | refine o4 ?_ | refine o5 ?_ | refine o6 ?_ | refine k5 ?_ | (intro h; first | exact Bool.noConfusion h | exact nz _ h | exact nl h | (simp at h; done) | (simp at h; first | (exfalso; omega) | skip) | skip) | (change retOk _ _ _ _; refine ret_pure rfl trivial ?_) | exact (rfl : allOne _ = true) | (refine (?_ : (0 : Int) ≤ _); omega) | (refine (?_ : _ ≠ _); omega) | (refine (?_ : srcLen _ = rowsLen _); rfl) | exact Nat.le_of_ble_eq_true rfl | exact (by kernel_rfl : drawOk _ _ = true) | refine eqv_len_map ?_ | refine eqv_size ?_ | refine eqv_put (eqv_ck ?_) | refine eqv_zero ?_ | refine eqv_wrap (by omega) (by omega) ?_ | refine eqv_u64 (by omega) (by omega) ?_ | refine eqv_u8 (by omega) (by omega) ?_ | refine eqv_to _ (set_map rfl rfl) ?_ | refine ⟨_, _, (by first | rfl | assumption), at_map (by assumption), ?_⟩ | refine ⟨_, _, (by first | rfl | assumption), (by assumption), ?_⟩ | refine ⟨_, at_map (by assumption), (by decide), ?_⟩ | refine ⟨_, at_map (by assumption), ?_⟩ | (refine (?_ : _ ≤ 140737488355328); simp [rowsLen] <;> omega) | (refine (?_ : _ ≤ 9223372036854775807); simp [rowsLen] <;> omega) | (refine (?_ : _ = rowsLen _); simp [rowsLen] <;> omega) | refine eqv_to _ (app_row rfl) (eqv_to _ app_len ?_) | refine eqv_to _ (app_first rfl) (eqv_to 1 rfl ?_) | refine idx_sl (at_map (by assumption)) (by omega) ?_ | refine idx_ms _ (by first | rfl | assumption) (by first | assumption | omega) ?_ | fail)
    all_goals first
      | (exfalso; omega)
      | rfl
def findA : Option Chg → AV
  | some x => .tup [ag x.row, vbool true]
  | none => .tup [ag (Chg.row ⟨emp, [], []⟩), vbool false]
theorem find_hit {c : List Chg} {i : Nat} {x : Chg} {k : Str} (hx : c[i]? = some x) (h : x.cls = k) (hall : ∀ j, j < i → ∀ x, c[j]? = some x → x.cls ≠ k) : findC c k = some x := by
  unfold findC
  refine List.find?_eq_some_iff_getElem.2 ⟨by rw [pB_t h], i, (List.getElem?_eq_some_iff.1 hx).1, (List.getElem?_eq_some_iff.1 hx).2, fun j hj => ?_⟩
  rw [pB_f (hall j hj _ (List.getElem?_eq_getElem (by have := (List.getElem?_eq_some_iff.1 hx).1; omega)))]
  rfl
theorem find_miss {c : List Chg} {k : Str} (hall : ∀ j, j < c.length → ∀ x, c[j]? = some x → x.cls ≠ k) : findC c k = none := by
  unfold findC
  refine List.find?_eq_none.2 fun y hy => ?_
  obtain ⟨j, hj⟩ := List.getElem?_of_mem hy
  rw [pB_f (hall j (List.getElem?_eq_some_iff.1 hj).1 y hj)]; simp
theorem c_find0 (c : List Chg) (k : Str) (hn : c.length ≤ 1000000000) : PCall Tryz.prog 35 [.pv (encChgs c), .pv (es k)] (fun r => Leq r (findA (findC c k))) := by
  refine acall_of tok mixed 21 rfl (fn := Tryz.f35) (c := Tryz.f35.body.getD .skip) (by kernel_rfl) (by kernel_rfl) (by kernel_rfl) rfl 0 rfl ?_
  repeat' (first | refine o1 ?_ | refine o2 ?_ | refine k1 ?_ | refine k2 ?_ | refine k3 ?_ | refine k4 ?_ | refine k6 ?_ | refine k7 ?_ | refine k8 ?_ | refine And.intro ?_ ?_ | exact trivial | refine o3 ?_ | refine o4 ?_ | refine o5 ?_ | refine o6 ?_ | refine k5 ?_ | (intro h; first | exact Bool.noConfusion h | exact nz _ h | exact nl h | (simp at h; done) | (simp at h; first | (exfalso; omega) | skip) | skip) | (change retOk _ _ _ _; refine ret_pure rfl trivial ?_) | exact (rfl : allOne _ = true) | (refine (?_ : (0 : Int) ≤ _); omega) | (refine (?_ : _ ≠ _); omega) | (refine (?_ : srcLen _ = rowsLen _); rfl) | exact Nat.le_of_ble_eq_true rfl | exact (by kernel_rfl : drawOk _ _ = true) | refine eqv_len_map ?_ | refine eqv_size ?_ | refine eqv_put (eqv_ck ?_) | refine eqv_zero ?_ | refine eqv_wrap (by omega) (by omega) ?_ | refine eqv_u64 (by omega) (by omega) ?_ | refine eqv_u8 (by omega) (by omega) ?_ | refine eqv_to _ (set_map rfl rfl) ?_ | refine ⟨_, _, (by first | rfl | assumption), at_map (by assumption), ?_⟩ | refine ⟨_, _, (by first | rfl | assumption), (by assumption), ?_⟩ | refine ⟨_, at_map (by assumption), (by decide), ?_⟩ | refine ⟨_, at_map (by assumption), ?_⟩ | (refine (?_ : _ ≤ 140737488355328); simp [rowsLen] <;> omega) | (refine (?_ : _ ≤ 9223372036854775807); simp [rowsLen] <;> omega) | (refine (?_ : _ = rowsLen _); simp [rowsLen] <;> omega) | refine eqv_to _ (app_row rfl) (eqv_to _ app_len ?_) | refine eqv_to _ (app_first rfl) (eqv_to 1 rfl ?_) | refine idx_sl (at_map (by assumption)) (by omega) ?_ | refine idx_ms _ (by first | rfl | assumption) (by first | assumption | omega) ?_ | fail)
  refine loop_at (fun i : Nat => [(10, vint .i64 i)]) (fun _ => []) (fun i => i ≤ c.length ∧ ∀ j, j < i → ∀ x, c[j]? = some x → x.cls ≠ k) (fun i => c.length - i) 0 ⟨Nat.zero_le _, fun j hj => by omega⟩ (by repeat' (first | exact trivial | exact rfl | exact ⟨_, rfl, ALe.refl⟩ | refine And.intro ?_ ?_)) (by repeat' (first | exact trivial | exact rfl | exact ⟨_, rfl, ALe.refl⟩ | refine And.intro ?_ ?_)) ?_
  intro i ⟨hi, hall⟩
  rcases Nat.lt_or_ge i c.length with hlt | hge
  · obtain ⟨x, hx⟩ := getE hlt
    repeat' (first | refine o1 ?_ | refine o2 ?_ | refine k1 ?_ | refine k2 ?_ | refine k3 ?_ | refine k4 ?_ | refine k6 ?_ | refine k7 ?_ | refine k8 ?_ | refine And.intro ?_ ?_ | exact trivial | refine o3 ?_ | refine o4 ?_ | refine o5 ?_ | refine o6 ?_ | refine k5 ?_ | (intro h; first | exact Bool.noConfusion h | exact nz _ h | exact nl h | (simp at h; done) | (simp at h; first | (exfalso; omega) | skip) | skip) | (change retOk _ _ _ _; refine ret_pure rfl trivial ?_) | exact (rfl : allOne _ = true) | (refine (?_ : (0 : Int) ≤ _); omega) | (refine (?_ : _ ≠ _); omega) | (refine (?_ : srcLen _ = rowsLen _); rfl) | exact Nat.le_of_ble_eq_true rfl | exact (by kernel_rfl : drawOk _ _ = true) | refine eqv_len_map ?_ | refine eqv_size ?_ | refine eqv_put (eqv_ck ?_) | refine eqv_zero ?_ | refine eqv_wrap (by omega) (by omega) ?_ | refine eqv_u64 (by omega) (by omega) ?_ | refine eqv_u8 (by omega) (by omega) ?_ | refine eqv_to _ (set_map rfl rfl) ?_ | refine ⟨_, _, (by first | rfl | assumption), at_map (by assumption), ?_⟩ | refine ⟨_, _, (by first | rfl | assumption), (by assumption), ?_⟩ | refine ⟨_, at_map (by assumption), (by decide), ?_⟩ | refine ⟨_, at_map (by assumption), ?_⟩ | (refine (?_ : _ ≤ 140737488355328); simp [rowsLen] <;> omega) | (refine (?_ : _ ≤ 9223372036854775807); simp [rowsLen] <;> omega) | (refine (?_ : _ = rowsLen _); simp [rowsLen] <;> omega) | refine eqv_to _ (app_row rfl) (eqv_to _ app_len ?_) | refine eqv_to _ (app_first rfl) (eqv_to 1 rfl ?_) | refine idx_sl (at_map (by assumption)) (by omega) ?_ | refine idx_ms _ (by first | rfl | assumption) (by first | assumption | omega) ?_ | fail)
    · rw [find_hit hx (sEq_iff.1 (by assumption)) hall]
      change retOk _ _ _ _; refine ret_pure rfl (by repeat' (first | exact True.intro | refine And.intro ?_ ?_)) ?_
      exact ⟨ALe.refl⟩
    · exact ⟨i + 1, ⟨by omega, all_lt_succ hall fun y hy => by rw [hx] at hy; cases hy; exact sEq_f.1 (by assumption)⟩, by omega, back [0] rfl rfl ⟨rfl, trivial⟩ (by repeat' (first | exact trivial | exact rfl | exact ⟨_, rfl, ALe.refl⟩ | refine And.intro ?_ ?_))⟩
  · repeat' (first | refine o1 ?_ | refine o2 ?_ | refine k1 ?_ | refine k2 ?_ | refine k3 ?_ | refine k4 ?_ | refine k6 ?_ | refine k7 ?_ | refine k8 ?_ | refine And.intro ?_ ?_ | exact trivial | refine o3 ?_ | refine o4 ?_ | refine o5 ?_ | refine o6 ?_ | refine k5 ?_ | (intro h; first | exact Bool.noConfusion h | exact nz _ h | exact nl h | (simp at h; done) | (simp at h; first | (exfalso; omega) | skip) | skip) | (change retOk _ _ _ _; refine ret_pure rfl trivial ?_) | exact (rfl : allOne _ = true) | (refine (?_ : (0 : Int) ≤ _); omega) | (refine (?_ : _ ≠ _); omega) | (refine (?_ : srcLen _ = rowsLen _); rfl) | exact Nat.le_of_ble_eq_true rfl | exact (by kernel_rfl : drawOk _ _ = true) | refine eqv_len_map ?_ | refine eqv_size ?_ | refine eqv_put (eqv_ck ?_) | refine eqv_zero ?_ | refine eqv_wrap (by omega) (by omega) ?_ | refine eqv_u64 (by omega) (by omega) ?_ | refine eqv_u8 (by omega) (by omega) ?_ | refine eqv_to _ (set_map rfl rfl) ?_ | refine ⟨_, _, (by first | rfl | assumption), at_map (by assumption), ?_⟩ | refine ⟨_, _, (by first | rfl | assumption), (by assumption), ?_⟩ | refine ⟨_, at_map (by assumption), (by decide), ?_⟩ | refine ⟨_, at_map (by assumption), ?_⟩ | (refine (?_ : _ ≤ 140737488355328); simp [rowsLen] <;> omega) | (refine (?_ : _ ≤ 9223372036854775807); simp [rowsLen] <;> omega) | (refine (?_ : _ = rowsLen _); simp [rowsLen] <;> omega) | refine eqv_to _ (app_row rfl) (eqv_to _ app_len ?_) | refine eqv_to _ (app_first rfl) (eqv_to 1 rfl ?_) | refine idx_sl (at_map (by assumption)) (by omega) ?_ | refine idx_ms _ (by first | rfl | assumption) (by first | assumption | omega) ?_ | fail)
    rw [find_miss fun j hj => hall j (by omega)]
    change retOk _ _ _ _; refine ret_pure rfl (by repeat' (first | exact True.intro | refine And.intro ?_ ?_)) ?_
    exact ⟨ALe.tup ⟨ALe.agg ⟨ALe.refl, ALe.pv PLe.nil, ALe.pv PLe.nil, trivial⟩, ALe.refl, trivial⟩⟩
theorem chg_eq {x y : Chg} (h1 : x.cls = y.cls) (h2 : x.bef = y.bef) (h3 : x.aft = y.aft) : x = y := by
  obtain ⟨a, b, c⟩ := x
  obtain ⟨a', b', c'⟩ := y
  simp only at h1 h2 h3
  subst h1; subst h2; subst h3; rfl
theorem c_samechg (a b : List Chg) (ha : ChgsL a) (hb : ChgsL b) (hn : a.length ≤ 1000000000) (hm : b.length ≤ 1000000000) : PCall Tryz.prog 12 [.pv (encChgs a), .pv (encChgs b)] (fun r => r = vbool (pB (a = b))) := by
  refine acall_of tok mixed 56 rfl (fn := Tryz.f12) (c := Tryz.f12.body.getD .skip) (by kernel_rfl) (by kernel_rfl) (by kernel_rfl) rfl 0 rfl ?_
  repeat' (first | refine o1 ?_ | refine o2 ?_ | refine k1 ?_ | refine k2 ?_ | refine k3 ?_ | refine k4 ?_ | refine k6 ?_ | refine k7 ?_ | refine k8 ?_ | refine And.intro ?_ ?_ | exact trivial | refine o3 ?_ | refine o4 ?_ | refine o5 ?_ | refine o6 ?_ | refine k5 ?_ | (intro h; first | exact Bool.noConfusion h | exact nz _ h | exact nl h | (simp at h; done) | (simp at h; first | (exfalso; omega) | skip) | skip) | (change retOk _ _ _ _; refine ret_pure rfl trivial ?_) | exact (rfl : allOne _ = true) | (refine (?_ : (0 : Int) ≤ _); omega) | (refine (?_ : _ ≠ _); omega) | (refine (?_ : srcLen _ = rowsLen _); rfl) | exact Nat.le_of_ble_eq_true rfl | exact (by kernel_rfl : drawOk _ _ = true) | refine eqv_len_map ?_ | refine eqv_size ?_ | refine eqv_put (eqv_ck ?_) | refine eqv_zero ?_ | refine eqv_wrap (by omega) (by omega) ?_ | refine eqv_u64 (by omega) (by omega) ?_ | refine eqv_u8 (by omega) (by omega) ?_ | refine eqv_to _ (set_map rfl rfl) ?_ | refine ⟨_, _, (by first | rfl | assumption), at_map (by assumption), ?_⟩ | refine ⟨_, _, (by first | rfl | assumption), (by assumption), ?_⟩ | refine ⟨_, at_map (by assumption), (by decide), ?_⟩ | refine ⟨_, at_map (by assumption), ?_⟩ | (refine (?_ : _ ≤ 140737488355328); simp [rowsLen] <;> omega) | (refine (?_ : _ ≤ 9223372036854775807); simp [rowsLen] <;> omega) | (refine (?_ : _ = rowsLen _); simp [rowsLen] <;> omega) | refine eqv_to _ (app_row rfl) (eqv_to _ app_len ?_) | refine eqv_to _ (app_first rfl) (eqv_to 1 rfl ?_) | refine idx_sl (at_map (by assumption)) (by omega) ?_ | refine idx_ms _ (by first | rfl | assumption) (by first | assumption | omega) ?_ | fail)
  · exact congrArg vbool (pB_f fun e => by subst e; simp_all).symm
  · have hl : a.length = b.length := by omega
    refine loop_at (fun i : Nat => [(5, vint .i64 i)]) (fun _ => []) (fun i => i ≤ a.length ∧ ∀ j, j < i → ∀ x y, a[j]? = some x → b[j]? = some y → x = y) (fun i => a.length - i) 0 ⟨Nat.zero_le _, fun j hj => by omega⟩ (by repeat' (first | exact trivial | exact rfl | exact ⟨_, rfl, ALe.refl⟩ | refine And.intro ?_ ?_)) (by repeat' (first | exact trivial | exact rfl | exact ⟨_, rfl, ALe.refl⟩ | refine And.intro ?_ ?_)) ?_
    intro i ⟨hi, hall⟩
    rcases Nat.lt_or_ge i a.length with hlt | hge
    · obtain ⟨x, hx⟩ := getE hlt
      obtain ⟨y, hy⟩ := getE (show i < b.length by omega)
      have hs1 := c_same x.bef y.bef (ha x (List.mem_of_getElem? hx)).1 (hb y (List.mem_of_getElem? hy)).1
      have hs2 := c_same x.aft y.aft (ha x (List.mem_of_getElem? hx)).2 (hb y (List.mem_of_getElem? hy)).2
      have hno : ∀ {P : Prop}, (x = y → False) → vbool false = vbool (pB (a = b)) := fun k => congrArg vbool (pB_f fun e => k (by subst e; rw [hx] at hy; injection hy)).symm
      have hgo : ∀ (e : x = y), ∀ j, j < i + 1 → ∀ x y, a[j]? = some x → b[j]? = some y → x = y := fun e => all_lt_succ hall fun x' y' q1 q2 => by rw [hx] at q1; cases q1; rw [hy] at q2; cases q2; exact e
      by_cases e1 : x.bef = y.bef
      · rw [pB_t e1] at hs1
        by_cases e2 : x.aft = y.aft
        · rw [pB_t e2] at hs2
          repeat' (first | ((change vcFunD _ _ _ _ _; refine callD_eq rfl (by repeat' (first | trivial | refine And.intro ?_ ?_ | (show 0 + _ ≤ List.length _; simp))) ALeL.refl hs1 rfl ?_)) | ((change vcFunD _ _ _ _ _; refine callD_eq rfl (by repeat' (first | trivial | refine And.intro ?_ ?_ | (show 0 + _ ≤ List.length _; simp))) ALeL.refl hs2 rfl ?_)) | refine o1 ?_ | refine o2 ?_ | refine k1 ?_ | refine k2 ?_ | refine k3 ?_ | refine k4 ?_ | refine k6 ?_ | refine k7 ?_ | refine k8 ?_ | refine And.intro ?_ ?_ | exact trivial | refine o3 ?_ | refine o4 ?_ | refine o5 ?_ | refine o6 ?_ | refine k5 ?_ | (intro h; first | exact Bool.noConfusion h | exact nz _ h | exact nl h | (simp at h; done) | (simp at h; first | (exfalso; omega) | skip) | skip) | (change retOk _ _ _ _; refine ret_pure rfl trivial ?_) | exact (rfl : allOne _ = true) | (refine (?_ : (0 : Int) ≤ _); omega) | (refine (?_ : _ ≠ _); omega) | (refine (?_ : srcLen _ = rowsLen _); rfl) | exact Nat.le_of_ble_eq_true rfl | exact (by kernel_rfl : drawOk _ _ = true) | refine eqv_len_map ?_ | refine eqv_size ?_ | refine eqv_put (eqv_ck ?_) | refine eqv_zero ?_ | refine eqv_wrap (by omega) (by omega) ?_ | refine eqv_u64 (by omega) (by omega) ?_ | refine eqv_u8 (by omega) (by omega) ?_ | refine eqv_to _ (set_map rfl rfl) ?_ | refine ⟨_, _, (by first | rfl | assumption), at_map (by assumption), ?_⟩ | refine ⟨_, _, (by first | rfl | assumption), (by assumption), ?_⟩ | refine ⟨_, at_map (by assumption), (by decide), ?_⟩ | refine ⟨_, at_map (by assumption), ?_⟩ | (refine (?_ : _ ≤ 140737488355328); simp [rowsLen] <;> omega) | (refine (?_ : _ ≤ 9223372036854775807); simp [rowsLen] <;> omega) | (refine (?_ : _ = rowsLen _); simp [rowsLen] <;> omega) | refine eqv_to _ (app_row rfl) (eqv_to _ app_len ?_) | refine eqv_to _ (app_first rfl) (eqv_to 1 rfl ?_) | refine idx_sl (at_map (by assumption)) (by omega) ?_ | refine idx_ms _ (by first | rfl | assumption) (by first | assumption | omega) ?_ | fail)
          all_goals first
            | exact hno (P := True) fun e => by subst e; rw [sEq_self] at *; simp_all
            | exact ⟨i + 1, ⟨by omega, hgo (chg_eq (sEq_iff.1 (by assumption)) e1 e2)⟩, by omega, back [] rfl rfl trivial (by repeat' (first | exact trivial | exact rfl | exact ⟨_, rfl, ALe.refl⟩ | refine And.intro ?_ ?_))⟩
        · rw [pB_f e2] at hs2
          repeat' (first | ((change vcFunD _ _ _ _ _; refine callD_eq rfl (by repeat' (first | trivial | refine And.intro ?_ ?_ | (show 0 + _ ≤ List.length _; simp))) ALeL.refl hs1 rfl ?_)) | ((change vcFunD _ _ _ _ _; refine callD_eq rfl (by repeat' (first | trivial | refine And.intro ?_ ?_ | (show 0 + _ ≤ List.length _; simp))) ALeL.refl hs2 rfl ?_)) | refine o1 ?_ | refine o2 ?_ | refine k1 ?_ | refine k2 ?_ | refine k3 ?_ | refine k4 ?_ | refine k6 ?_ | refine k7 ?_ | refine k8 ?_ | refine And.intro ?_ ?_ | exact trivial | refine o3 ?_ | refine o4 ?_ | refine o5 ?_ | refine o6 ?_ | refine k5 ?_ | (intro h; first | exact Bool.noConfusion h | exact nz _ h | exact nl h | (simp at h; done) | (simp at h; first | (exfalso; omega) | skip) | skip) | (change retOk _ _ _ _; refine ret_pure rfl trivial ?_) | exact (rfl : allOne _ = true) | (refine (?_ : (0 : Int) ≤ _); omega) | (refine (?_ : _ ≠ _); omega) | (refine (?_ : srcLen _ = rowsLen _); rfl) | exact Nat.le_of_ble_eq_true rfl | exact (by kernel_rfl : drawOk _ _ = true) | refine eqv_len_map ?_ | refine eqv_size ?_ | refine eqv_put (eqv_ck ?_) | refine eqv_zero ?_ | refine eqv_wrap (by omega) (by omega) ?_ | refine eqv_u64 (by omega) (by omega) ?_ | refine eqv_u8 (by omega) (by omega) ?_ | refine eqv_to _ (set_map rfl rfl) ?_ | refine ⟨_, _, (by first | rfl | assumption), at_map (by assumption), ?_⟩ | refine ⟨_, _, (by first | rfl | assumption), (by assumption), ?_⟩ | refine ⟨_, at_map (by assumption), (by decide), ?_⟩ | refine ⟨_, at_map (by assumption), ?_⟩ | (refine (?_ : _ ≤ 140737488355328); simp [rowsLen] <;> omega) | (refine (?_ : _ ≤ 9223372036854775807); simp [rowsLen] <;> omega) | (refine (?_ : _ = rowsLen _); simp [rowsLen] <;> omega) | refine eqv_to _ (app_row rfl) (eqv_to _ app_len ?_) | refine eqv_to _ (app_first rfl) (eqv_to 1 rfl ?_) | refine idx_sl (at_map (by assumption)) (by omega) ?_ | refine idx_ms _ (by first | rfl | assumption) (by first | assumption | omega) ?_ | fail)
          all_goals first
            | exact hno (P := True) fun e => e2 (by rw [e])
      · rw [pB_f e1] at hs1
        generalize pB (x.aft = y.aft) = B at *
        repeat' (first | ((change vcFunD _ _ _ _ _; refine callD_eq rfl (by repeat' (first | trivial | refine And.intro ?_ ?_ | (show 0 + _ ≤ List.length _; simp))) ALeL.refl hs1 rfl ?_)) | ((change vcFunD _ _ _ _ _; refine callD_eq rfl (by repeat' (first | trivial | refine And.intro ?_ ?_ | (show 0 + _ ≤ List.length _; simp))) ALeL.refl hs2 rfl ?_)) | refine o1 ?_ | refine o2 ?_ | refine k1 ?_ | refine k2 ?_ | refine k3 ?_ | refine k4 ?_ | refine k6 ?_ | refine k7 ?_ | refine k8 ?_ | refine And.intro ?_ ?_ | exact trivial | refine o3 ?_ | refine o4 ?_ | refine o5 ?_ | refine o6 ?_ | refine k5 ?_ | (intro h; first | exact Bool.noConfusion h | exact nz _ h | exact nl h | (simp at h; done) | (simp at h; first | (exfalso; omega) | skip) | skip) | (change retOk _ _ _ _; refine ret_pure rfl trivial ?_) | exact (rfl : allOne _ = true) | (refine (?_ : (0 : Int) ≤ _); omega) | (refine (?_ : _ ≠ _); omega) | (refine (?_ : srcLen _ = rowsLen _); rfl) | exact Nat.le_of_ble_eq_true rfl | exact (by kernel_rfl : drawOk _ _ = true) | refine eqv_len_map ?_ | refine eqv_size ?_ | refine eqv_put (eqv_ck ?_) | refine eqv_zero ?_ | refine eqv_wrap (by omega) (by omega) ?_ | refine eqv_u64 (by omega) (by omega) ?_ | refine eqv_u8 (by omega) (by omega) ?_ | refine eqv_to _ (set_map rfl rfl) ?_ | refine ⟨_, _, (by first | rfl | assumption), at_map (by assumption), ?_⟩ | refine ⟨_, _, (by first | rfl | assumption), (by assumption), ?_⟩ | refine ⟨_, at_map (by assumption), (by decide), ?_⟩ | refine ⟨_, at_map (by assumption), ?_⟩ | (refine (?_ : _ ≤ 140737488355328); simp [rowsLen] <;> omega) | (refine (?_ : _ ≤ 9223372036854775807); simp [rowsLen] <;> omega) | (refine (?_ : _ = rowsLen _); simp [rowsLen] <;> omega) | refine eqv_to _ (app_row rfl) (eqv_to _ app_len ?_) | refine eqv_to _ (app_first rfl) (eqv_to 1 rfl ?_) | refine idx_sl (at_map (by assumption)) (by omega) ?_ | refine idx_ms _ (by first | rfl | assumption) (by first | assumption | omega) ?_ | fail)
        all_goals first
          | exact hno (P := True) fun e => e1 (by rw [e])
    · repeat' (first | refine o1 ?_ | refine o2 ?_ | refine k1 ?_ | refine k2 ?_ | refine k3 ?_ | refine k4 ?_ | refine k6 ?_ | refine k7 ?_ | refine k8 ?_ | refine And.intro ?_ ?_ | exact trivial | refine o3 ?_ | refine o4 ?_ | refine o5 ?_ | refine o6 ?_ | refine k5 ?_ | (intro h; first | exact Bool.noConfusion h | exact nz _ h | exact nl h | (simp at h; done) | (simp at h; first | (exfalso; omega) | skip) | skip) | (change retOk _ _ _ _; refine ret_pure rfl trivial ?_) | exact (rfl : allOne _ = true) | (refine (?_ : (0 : Int) ≤ _); omega) | (refine (?_ : _ ≠ _); omega) | (refine (?_ : srcLen _ = rowsLen _); rfl) | exact Nat.le_of_ble_eq_true rfl | exact (by kernel_rfl : drawOk _ _ = true) | refine eqv_len_map ?_ | refine eqv_size ?_ | refine eqv_put (eqv_ck ?_) | refine eqv_zero ?_ | refine eqv_wrap (by omega) (by omega) ?_ | refine eqv_u64 (by omega) (by omega) ?_ | refine eqv_u8 (by omega) (by omega) ?_ | refine eqv_to _ (set_map rfl rfl) ?_ | refine ⟨_, _, (by first | rfl | assumption), at_map (by assumption), ?_⟩ | refine ⟨_, _, (by first | rfl | assumption), (by assumption), ?_⟩ | refine ⟨_, at_map (by assumption), (by decide), ?_⟩ | refine ⟨_, at_map (by assumption), ?_⟩ | (refine (?_ : _ ≤ 140737488355328); simp [rowsLen] <;> omega) | (refine (?_ : _ ≤ 9223372036854775807); simp [rowsLen] <;> omega) | (refine (?_ : _ = rowsLen _); simp [rowsLen] <;> omega) | refine eqv_to _ (app_row rfl) (eqv_to _ app_len ?_) | refine eqv_to _ (app_first rfl) (eqv_to 1 rfl ?_) | refine idx_sl (at_map (by assumption)) (by omega) ?_ | refine idx_ms _ (by first | rfl | assumption) (by first | assumption | omega) ?_ | fail)
      exact congrArg vbool (pB_t (lists_at hl fun j hj => hall j (by omega))).symm
end Go.Proofs.YtbcacaodfpgflaaGreatDoor.Cw

/-
  Plain laws: what changes make of a list, by the reference.
-/
namespace Go.Proofs.YtbcacaodfpgflaaGreatDoor.Cw
open Go Go.Cw Go.Proofs
set_option linter.unusedVariables false

theorem appL_ref {l : List Sess} {c : List Chg} (hc : ∀ x ∈ c, (ofC x.aft x.cls).length = x.aft.length) :
    appL l c = (clsOf (l.map Sess.cls ++ (c.flatMap Chg.aft).map Sess.cls)).flatMap (appG l c) := by
  unfold appL
  refine flatMap_unique clsOf_str clsOf_str fun k hk => ?_
  rw [clsOf_mem, clsOf_mem, List.mem_append, List.mem_append]
  unfold appG at hk
  cases hf : findC c k with
  | some x =>
    rw [hf] at hk
    obtain ⟨h1, h2⟩ := find_mem hf
    refine iff_of_true (.inl (List.mem_map.2 ⟨x, h1, h2⟩)) (.inr ?_)
    obtain ⟨s, hs⟩ := List.exists_mem_of_ne_nil _ hk
    exact List.mem_map.2 ⟨s, List.mem_flatMap.2 ⟨x, h1, hs⟩, by rw [ofC_all (hc x h1) s hs]; exact h2⟩
  | none =>
    rw [hf] at hk
    obtain ⟨s, hs⟩ := List.exists_mem_of_ne_nil _ hk
    have := ofC_mem.1 hs
    have hm : k ∈ l.map Sess.cls := List.mem_map.2 ⟨s, this.1, this.2⟩
    exact iff_of_true (.inr hm) (.inl hm)
theorem find_t {c : List Chg} {i : Nat} {x : Chg} {k : Str} (hx : c[i]? = some x) (h0 : findC (c.take i) k = none) (h : x.cls = k) : findC (c.take (i + 1)) k = some x := by
  unfold findC at *
  rw [take_snoc hx, List.find?_append, h0]
  simp [pB_t h]
theorem find_f {c : List Chg} {i : Nat} {x : Chg} {k : Str} (hx : c[i]? = some x) (h : x.cls ≠ k) : findC (c.take (i + 1)) k = findC (c.take i) k := by
  unfold findC at *
  rw [take_snoc hx, List.find?_append]
  simp [pB_f h]
theorem find_before {c : List Chg} (ho : c.Pairwise fun x y => sLt x.cls y.cls = true) {i : Nat} {x : Chg} (hx : c[i]? = some x) : findC (c.take i) x.cls = none := by
  unfold findC
  refine List.find?_eq_none.2 fun y hy => ?_
  obtain ⟨j, hj⟩ := List.getElem?_of_mem hy
  rw [List.getElem?_take] at hj
  split at hj
  · rename_i hji
    obtain ⟨hi', rfl⟩ := List.getElem?_eq_some_iff.1 hx
    obtain ⟨hj', rfl⟩ := List.getElem?_eq_some_iff.1 hj
    have := List.pairwise_iff_getElem.1 ho j i hj' hi' hji
    rw [pB_f fun e => by rw [e, sLt_self] at this; cases this]
    simp
  · cases hj
theorem appG_t {l : List Sess} {c : List Chg} (ho : c.Pairwise fun x y => sLt x.cls y.cls = true) {i : Nat} {x : Chg} {k : Str} (hx : c[i]? = some x) (h : x.cls = k) : appG l (c.take (i + 1)) k = x.aft := by
  subst h
  unfold appG
  rw [find_t hx (find_before ho hx) rfl]
theorem appG_f {l : List Sess} {c : List Chg} {i : Nat} {x : Chg} {k : Str} (hx : c[i]? = some x) (h : x.cls ≠ k) : appG l (c.take (i + 1)) k = appG l (c.take i) k := by
  unfold appG
  rw [find_f hx h]
end Go.Proofs.YtbcacaodfpgflaaGreatDoor.Cw

/-
  Plain laws: two lists of changes merged.
-/
namespace Go.Proofs.YtbcacaodfpgflaaGreatDoor.Cw
open Go Go.Cw Go.Proofs
set_option linter.unusedVariables false

theorem clsOf_last {L : List Str} {x : Str} (h : ∀ y ∈ L, sLt y x = true) : clsOf (L ++ [x]) = clsOf L ++ [x] := by
  have := clsOf_put (L := L) (x := x) (k := (clsOf L).length) (fun j hj y hy => h y (clsOf_mem.1 (List.mem_of_getElem? hy))) (fun y hy => by simp at hy)
  simpa using this
def doneK (c d : List Chg) (i k : Nat) : List Str := (c.take i).map Chg.cls ++ (d.take k).map Chg.cls
noncomputable def midJ (c d : List Chg) (i k : Nat) : List Chg := (clsOf (doneK c d i k)).filterMap (joinG c d)
/-- What is done lies below what is next. -/
def sepJ (c d : List Chg) (i k : Nat) : Prop := ∀ y ∈ doneK c d i k, (∀ x, c[i]? = some x → sLt y x.cls = true) ∧ ∀ x, d[k]? = some x → sLt y x.cls = true
theorem done_c {c d : List Chg} {i k : Nat} {x : Chg} (hx : c[i]? = some x) {s : Str} : s ∈ doneK c d (i + 1) k ↔ s ∈ doneK c d i k ++ [x.cls] := by
  unfold doneK
  rw [take_snoc hx, List.map_append]
  generalize (c.take i).map Chg.cls = A
  generalize (d.take k).map Chg.cls = B
  simp only [List.mem_append, List.map_cons, List.map_nil]
  exact ⟨fun h => h.elim (fun h => h.elim (fun h => .inl (.inl h)) .inr) fun h => .inl (.inr h), fun h => h.elim (fun h => h.elim (fun h => .inl (.inl h)) .inr) fun h => .inl (.inr h)⟩
theorem done_d {c d : List Chg} {i k : Nat} {x : Chg} (hx : d[k]? = some x) {s : Str} : s ∈ doneK c d i (k + 1) ↔ s ∈ doneK c d i k ++ [x.cls] := by
  unfold doneK
  rw [take_snoc hx, List.map_append]
  generalize (c.take i).map Chg.cls = A
  generalize (d.take k).map Chg.cls = B
  simp only [List.mem_append, List.map_cons, List.map_nil]
  exact ⟨fun h => h.elim (fun h => .inl (.inl h)) fun h => h.elim (fun h => .inl (.inr h)) .inr, fun h => h.elim (fun h => h.elim .inl fun h => .inr (.inl h)) fun h => .inr (.inr h)⟩
theorem ord_lt {c : List Chg} (ho : c.Pairwise fun x y => sLt x.cls y.cls = true) {i j : Nat} {x y : Chg} (hx : c[i]? = some x) (hy : c[j]? = some y) (h : i < j) : sLt x.cls y.cls = true := by
  obtain ⟨hi, rfl⟩ := List.getElem?_eq_some_iff.1 hx
  obtain ⟨hj, rfl⟩ := List.getElem?_eq_some_iff.1 hy
  exact List.pairwise_iff_getElem.1 ho i j hi hj h
/-- A class below all that is left of a sorted list, and above all that is done, is none of its classes. -/
theorem find_gap {d : List Chg} (ho : d.Pairwise fun x y => sLt x.cls y.cls = true) {k : Nat} {s : Str} (h1 : ∀ y ∈ (d.take k).map Chg.cls, sLt y s = true) (h2 : ∀ y, d[k]? = some y → sLt s y.cls = true) : findC d s = none := by
  unfold findC
  refine List.find?_eq_none.2 fun y hy => ?_
  obtain ⟨j, hj⟩ := List.getElem?_of_mem hy
  have hne : ¬ y.cls = s := fun e => by
    rcases Nat.lt_trichotomy j k with h | h | h
    · have : y ∈ d.take k := by
        refine List.mem_of_getElem? (i := j) ?_
        rw [List.getElem?_take_of_lt h]; exact hj
      have := h1 _ (List.mem_map.2 ⟨y, this, rfl⟩)
      rw [e, sLt_self] at this; cases this
    · subst h
      have := h2 y hj
      rw [e, sLt_self] at this; cases this
    · obtain ⟨z, hz⟩ := getE (show k < d.length by have := (List.getElem?_eq_some_iff.1 hj).1; omega)
      have := sLt_trans (h2 z hz) (ord_lt ho hz hj h)
      rw [e, sLt_self] at this; cases this
  rw [pB_f hne]; simp
theorem mid_c {c d : List Chg} (hc : orderedP c) (hd : orderedP d) {i k : Nat} {x : Chg} (hs : sepJ c d i k) (hx : c[i]? = some x) (hy : ∀ y, d[k]? = some y → sLt x.cls y.cls = true) :
    midJ c d (i + 1) k = midJ c d i k ++ [x] ∧ sepJ c d (i + 1) k ∧ findC d x.cls = none := by
  have hoc := ordered_pair.1 hc.1
  have hod := ordered_pair.1 hd.1
  have hlow : ∀ y ∈ doneK c d i k, sLt y x.cls = true := fun y h => (hs y h).1 x hx
  have hf : findC d x.cls = none := find_gap hod (fun y h => hlow y (List.mem_append.2 (.inr h))) hy
  have hfc : findC c x.cls = some x := find_of hoc (List.mem_of_getElem? hx)
  refine ⟨?_, fun s hsm => ?_, hf⟩
  · unfold midJ
    rw [clsOf_same (M := doneK c d i k ++ [x.cls]) fun s => done_c hx, clsOf_last hlow, List.filterMap_append]
    have hg : joinG c d x.cls = some x := by
      unfold joinG joinX
      rw [hfc, hf]
      simp [pB_f (hc.2 x (List.mem_of_getElem? hx))]
    simp [hg]
  · rcases List.mem_append.1 ((done_c hx).1 hsm) with h | h
    · exact ⟨fun z hz => sLt_trans (hlow s h) (ord_lt hoc hx hz (by omega)), (hs s h).2⟩
    · rw [List.mem_singleton.1 h]
      exact ⟨fun z hz => ord_lt hoc hx hz (by omega), hy⟩
theorem mid_d {c d : List Chg} (hc : orderedP c) (hd : orderedP d) {i k : Nat} {x : Chg} (hs : sepJ c d i k) (hx : d[k]? = some x) (hy : ∀ y, c[i]? = some y → sLt x.cls y.cls = true) :
    midJ c d i (k + 1) = midJ c d i k ++ [x] ∧ sepJ c d i (k + 1) := by
  have hoc := ordered_pair.1 hc.1
  have hod := ordered_pair.1 hd.1
  have hlow : ∀ y ∈ doneK c d i k, sLt y x.cls = true := fun y h => (hs y h).2 x hx
  have hf : findC c x.cls = none := find_gap hoc (fun y h => hlow y (List.mem_append.2 (.inl h))) hy
  have hfc : findC d x.cls = some x := find_of hod (List.mem_of_getElem? hx)
  refine ⟨?_, fun s hsm => ?_⟩
  · unfold midJ
    rw [clsOf_same (M := doneK c d i k ++ [x.cls]) fun s => done_d hx, clsOf_last hlow, List.filterMap_append]
    have hg : joinG c d x.cls = some x := by
      unfold joinG joinX
      rw [hfc, hf]
      simp [pB_f (hd.2 x (List.mem_of_getElem? hx))]
    simp [hg]
  · rcases List.mem_append.1 ((done_d hx).1 hsm) with h | h
    · exact ⟨(hs s h).1, fun z hz => sLt_trans (hlow s h) (ord_lt hod hx hz (by omega))⟩
    · rw [List.mem_singleton.1 h]
      exact ⟨hy, fun z hz => ord_lt hod hx hz (by omega)⟩
theorem mid_cd {c d : List Chg} (hc : orderedP c) (hd : orderedP d) {i k : Nat} {x y : Chg} (hs : sepJ c d i k) (hx : c[i]? = some x) (hy : d[k]? = some y) (he : x.cls = y.cls) :
    midJ c d (i + 1) (k + 1) = midJ c d i k ++ (if pB (x.bef = y.aft) then [] else [⟨x.cls, x.bef, y.aft⟩]) ∧ sepJ c d (i + 1) (k + 1) ∧ findC d x.cls = some y := by
  have hoc := ordered_pair.1 hc.1
  have hod := ordered_pair.1 hd.1
  have hlow : ∀ y ∈ doneK c d i k, sLt y x.cls = true := fun y h => (hs y h).1 x hx
  have hfd : findC d x.cls = some y := by rw [he]; exact find_of hod (List.mem_of_getElem? hy)
  have hfc : findC c x.cls = some x := find_of hoc (List.mem_of_getElem? hx)
  have hm : ∀ s, s ∈ doneK c d (i + 1) (k + 1) ↔ s ∈ doneK c d i k ++ [x.cls] := fun s => by
    rw [done_d hy, List.mem_append, done_c hx, List.mem_append, ← he]
    exact ⟨fun h => h.elim id .inr, .inl⟩
  refine ⟨?_, fun s hsm => ?_, hfd⟩
  · unfold midJ
    rw [clsOf_same hm, clsOf_last hlow, List.filterMap_append]
    have hg : joinG c d x.cls = if pB (x.bef = y.aft) then none else some ⟨x.cls, x.bef, y.aft⟩ := by
      unfold joinG joinX
      rw [hfc, hfd]
    rw [List.filterMap_cons, hg]
    by_cases h : x.bef = y.aft
    · simp [pB_t h]
    · simp [pB_f h]
  · rcases List.mem_append.1 ((hm s).1 hsm) with h | h
    · exact ⟨fun z hz => sLt_trans (hlow s h) (ord_lt hoc hx hz (by omega)), fun z hz => sLt_trans (hlow s h) (by rw [he]; exact ord_lt hod hy hz (by omega))⟩
    · rw [List.mem_singleton.1 h]
      exact ⟨fun z hz => ord_lt hoc hx hz (by omega), fun z hz => by rw [he]; exact ord_lt hod hy hz (by omega)⟩
theorem mid_zero {c d : List Chg} : midJ c d 0 0 = [] ∧ sepJ c d 0 0 := by
  refine ⟨?_, fun s h => by cases h⟩
  unfold midJ
  have : clsOf (doneK c d 0 0) = [] := List.eq_nil_iff_forall_not_mem.2 fun x h => by cases clsOf_mem.1 h
  rw [this]; rfl
theorem mid_all {c d : List Chg} : midJ c d c.length d.length = joinL c d := by
  unfold midJ doneK joinL
  rw [List.take_length, List.take_length]
end Go.Proofs.YtbcacaodfpgflaaGreatDoor.Cw

/-
  Plain laws: which error Apply and Join return; how long what they make is.
-/
namespace Go.Proofs.YtbcacaodfpgflaaGreatDoor.Cw
open Go Go.Cw Go.Proofs
set_option linter.unusedVariables false

section
variable {l : List Sess} {c d : List Chg} {w : Int}
theorem ap1 (h : ¬ validE l w = 0) : applE l c w = validE l w ∧ applV l c w = [] := by
  have e : applE l c w = validE l w := by unfold applE; rw [if_pos h]
  exact ⟨e, by unfold applV; rw [e, if_neg h]⟩
theorem ap2 (h0 : validE l w = 0) (h : ¬ orderedP c) : applE l c w = 63 ∧ applV l c w = [] := by
  have e : applE l c w = 63 := by unfold applE; rw [if_neg (by simp [h0]), if_neg (by rw [pB_f h]; simp)]
  exact ⟨e, by unfold applV; rw [e]; rfl⟩
theorem ap3 (h0 : validE l w = 0) (h : orderedP c) {i : Nat} (hall : ∀ j, j < i → appAt l c j = 0) (hi : i < c.length) (hne : appAt l c i ≠ 0) : applE l c w = appAt l c i ∧ applV l c w = [] := by
  have e1 : firstE (appAt l c) c.length = appAt l c i := firstE_at hall hne hi
  have e : applE l c w = appAt l c i := by unfold applE; rw [if_neg (by simp [h0]), if_pos (pB_t h), e1, if_pos hne]
  exact ⟨e, by unfold applV; rw [e, if_neg hne]⟩
theorem ap4 (h0 : validE l w = 0) (h : orderedP c) (hall : ∀ j, j < c.length → appAt l c j = 0) : applE l c w = validE (appL l c) w ∧ (validE (appL l c) w = 0 → applV l c w = appL l c) ∧ (validE (appL l c) w ≠ 0 → applV l c w = []) := by
  have e : applE l c w = validE (appL l c) w := by unfold applE; rw [if_neg (by simp [h0]), if_pos (pB_t h), firstE_zero hall, if_neg (by simp)]
  exact ⟨e, fun k => by unfold applV; rw [e, if_pos k], fun k => by unfold applV; rw [e, if_neg k]⟩
theorem appAt_s {i : Nat} {x : Chg} (hx : c[i]? = some x) (h : ¬ x.bef = ofC l x.cls) : appAt l c i = 62 := by
  unfold appAt; rw [hx]; dsimp only; rw [if_neg (by rw [pB_f h]; simp)]
theorem appAt_i {i : Nat} {x : Chg} (hx : c[i]? = some x) (h : x.bef = ofC l x.cls) (hn : (ofC x.aft x.cls).length ≠ x.aft.length) : appAt l c i = 1 := by
  unfold appAt; rw [hx]; dsimp only; rw [if_pos (pB_t h), if_pos hn]
theorem appAt_0 {i : Nat} {x : Chg} (hx : c[i]? = some x) (h : x.bef = ofC l x.cls) (hn : (ofC x.aft x.cls).length = x.aft.length) : appAt l c i = 0 := by
  unfold appAt; rw [hx]; dsimp only; rw [if_pos (pB_t h), if_neg (by simp [hn])]
theorem appAt_all (hall : ∀ j, j < c.length → appAt l c j = 0) : ∀ x ∈ c, (ofC x.aft x.cls).length = x.aft.length := fun x hx => by
  obtain ⟨j, hj⟩ := List.getElem?_of_mem hx
  have h := hall j (List.getElem?_eq_some_iff.1 hj).1
  apply Classical.byContradiction
  intro hn
  by_cases hb : x.bef = ofC l x.cls
  · rw [appAt_i hj hb hn] at h; cases h
  · rw [appAt_s hj hb] at h; cases h
theorem flat_len {α β : Type} {f : α → List β} {M : Nat} : ∀ {K : List α}, (∀ k ∈ K, (f k).length ≤ M) → (K.flatMap f).length ≤ K.length * M
  | [], _ => by simp
  | k :: K, h => by
    have h1 := h k (by simp)
    have h2 := flat_len (K := K) fun k hk => h k (by simp [hk])
    rw [List.flatMap_cons, List.length_append, List.length_cons, Nat.add_mul]
    omega
theorem appG_len {M : Nat} (hc : ∀ x ∈ c, x.aft.length ≤ M) (hl : l.length ≤ M) (k : Str) : (appG l c k).length ≤ M := by
  unfold appG
  cases h : findC c k with
  | none => exact Nat.le_trans (List.length_filter_le _ _) hl
  | some x => exact hc x (find_mem h).1
theorem appG_some {k : Str} {x : Chg} (h : findC c k = some x) : appG l c k = x.aft := by unfold appG; rw [h]
theorem appG_none {k : Str} (h : findC c k = none) : appG l c k = ofC l k := by unfold appG; rw [h]

theorem jn1 (h : ¬ (orderedP c ∧ orderedP d)) : joinE c d = 63 ∧ joinV c d = [] := by
  have e : joinE c d = 63 := by unfold joinE; rw [if_neg (by rw [pB_f h]; simp)]
  exact ⟨e, by unfold joinV; rw [e]; rfl⟩
theorem jn2 (hc : orderedP c) (hd : orderedP d) (h : joinBad c d) : joinE c d = 62 ∧ joinV c d = [] := by
  have e : joinE c d = 62 := by unfold joinE; rw [if_pos (pB_t ⟨hc, hd⟩), if_pos (pB_t h)]
  exact ⟨e, by unfold joinV; rw [e]; rfl⟩
theorem jn3 (hc : orderedP c) (hd : orderedP d) (h : ¬ joinBad c d) : joinE c d = 0 ∧ joinV c d = joinL c d := by
  have e : joinE c d = 0 := by unfold joinE; rw [if_pos (pB_t ⟨hc, hd⟩), if_neg (by rw [pB_f h]; simp)]
  exact ⟨e, by unfold joinV; rw [e]; rfl⟩
/-- So far no change is at odds. -/
def goodTo (c d : List Chg) (i : Nat) : Prop := ∀ j, j < i → ∀ x y, c[j]? = some x → findC d x.cls = some y → x.aft = y.bef
theorem good_all (h : goodTo c d c.length) : ¬ joinBad c d := fun ⟨x, hx, y, hf, hne⟩ => by
  obtain ⟨j, hj⟩ := List.getElem?_of_mem hx
  exact hne (h j (List.getElem?_eq_some_iff.1 hj).1 x y hj hf)
theorem good_next {i : Nat} (h : goodTo c d i) {x : Chg} (hx : c[i]? = some x) (hg : ∀ y, findC d x.cls = some y → x.aft = y.bef) : goodTo c d (i + 1) := fun j hj z y hz hf => by
  rcases Nat.lt_or_ge j i with k | k
  · exact h j k z y hz hf
  · obtain rfl : j = i := by omega
    rw [hx] at hz; cases hz
    exact hg y hf
theorem good_bad {i : Nat} {x y : Chg} (hx : c[i]? = some x) (hf : findC d x.cls = some y) (hne : ¬ x.aft = y.bef) : joinBad c d := ⟨x, List.mem_of_getElem? hx, y, hf, hne⟩
theorem good_zero : goodTo c d 0 := fun j hj => by omega
noncomputable def joinK (c d : List Chg) (K : List Str) : List Chg := K.filterMap (joinG c d)
theorem joinK_t {K : List Str} {i : Nat} {k : Str} (hk : K[i]? = some k) (h : (joinX c d k).bef = (joinX c d k).aft) : joinK c d (K.take (i + 1)) = joinK c d (K.take i) := by
  unfold joinK; rw [take_snoc hk, List.filterMap_append]; simp [joinG, pB_t h]
theorem joinK_f {K : List Str} {i : Nat} {k : Str} (hk : K[i]? = some k) (h : ¬ (joinX c d k).bef = (joinX c d k).aft) : joinK c d (K.take (i + 1)) = joinK c d (K.take i) ++ [joinX c d k] := by
  unfold joinK; rw [take_snoc hk, List.filterMap_append]; simp [joinG, pB_f h]
theorem joinK_len {K : List Str} : (joinK c d K).length ≤ K.length := by
  unfold joinK; exact List.length_filterMap_le _ _
theorem inv_snoc {i : Nat} {x : Chg} (hx : c[i]? = some x) : invC (c.take (i + 1)) = invC (c.take i) ++ [⟨x.cls, x.aft, x.bef⟩] := by
  unfold invC; rw [take_snoc hx, List.map_append]; rfl
end
end Go.Proofs.YtbcacaodfpgflaaGreatDoor.Cw

/-
  slices.Clone of sessions, slices.Clip of changes.
-/
namespace Go.Proofs.YtbcacaodfpgflaaGreatDoor.Cw
open Go Go.Cw Go.Proofs Go.RowKit
set_option linter.unusedVariables false
set_option maxRecDepth 100000
set_option maxHeartbeats 4000000

theorem below_evo {I : Nat → Prop} {w w' : World} {β' : Beta} {I' : Nat → Prop} (hH : HSim I [] [] w) (hb : Below w.heap.size w w') (hf : ∀ (i : Nat) b, β'[i]? = some (some b) → w.heap.size ≤ b.1) (hI : ∀ b, I b → I' b) (hI2 : ∀ b, I' b → I b ∨ w.heap.size ≤ b) (hd : w.drawn ≤ w'.drawn) : Evo I [] w I' β' w' :=
  ⟨hb.os, hb.tape, hb.output, hb.size, fun i b h => by simp at h, fun i b h => .inl (hf i b h), fun b h _ => hb.block b h, fun b h => ⟨hb.block b (hH.imm b h), hI b h⟩, fun b h h2 => (hI2 b h2).elim .inl fun h3 => by omega, fun b t n h => by
    have hlt : b < w.heap.size := by
      unfold World.shape? at h
      rcases Nat.lt_or_ge b w.heap.size with h1 | h1
      · exact h1
      · rw [Array.getElem?_eq_none h1] at h; cases h
    unfold World.shape? at h ⊢
    rw [hb.block b hlt]; exact h, hd⟩
theorem own_none {I : Nat → Prop} {w w' : World} {v : Value} {z : Nat} {te : TypeId} (hH : HSim I [] [] w) (ho : w'.ownsRow w.heap.size te z v 0 []) (hb : Below w.heap.size w w') (hd : w.drawn ≤ w'.drawn) :
    ∃ I' β', HSim I' β' [] w' ∧ ARel I' β' w' (.pv (.sl z [])) v ∧ Evo I [] w I' β' w' := by
  have hsl : ∃ ad cap, v = .slice ad 0 cap := by
    obtain ⟨-, ⟨rfl, -⟩ | ⟨g, cap, cur, rfl, -⟩⟩ := ho
    · exact ⟨_, _, rfl⟩
    · exact ⟨_, _, rfl⟩
  obtain ⟨ad, cap, rfl⟩ := hsl
  exact ⟨I, [], ⟨rfl, fun i o h => by simp at h, fun i j oi oj b b' h => by simp at h, ⟨fun b h => Nat.lt_of_lt_of_le (hH.imm b h) hb.size, hH.imm.gl.mono fun b h => ⟨hb.block b (hH.imm b h), h⟩⟩, fun i b h => by simp at h⟩,
    .pv (.sl (xs := []) (fun _ _ => undef) (Nat.zero_le _) (fun i r h => by simp at h) fun i r j p h => by simp at h), below_evo hH hb (fun i b h => by simp at h) (fun b h => h) (fun b h => .inl h) hd⟩
theorem c_cloneS1 (l : List Sess) (hl : 0 < l.length ∧ l.length ≤ 2199023255552) : PCall Tryz.prog 38 [.pv (encSess l)] (fun r => r = .pv (encSess l)) := by
  obtain ⟨hl0, hl⟩ := hl
  rcases l with _ | ⟨x, l⟩
  · exact absurd hl0 (by simp)
  refine acall_of tok mixed 8 rfl (fn := Tryz.f38) (c := Tryz.f38.body.getD .skip) (by kernel_rfl) (by kernel_rfl) (by kernel_rfl) rfl 0 rfl ?_
  repeat' (first | ((show rowsLen _ * _ ≤ _; simp [rowsLen] at *; omega)) | ((show rowsLen _ ≤ _; simp [rowsLen] at *; omega)) | (refine eqv_to (Rows.p ((x :: l).map Sess.row)) rfl (eqv_to (x :: l).length (by simp [rowsLen]) ?_)) | refine o1 ?_ | refine o2 ?_ | refine k1 ?_ | refine k2 ?_ | refine k3 ?_ | refine k4 ?_ | refine k6 ?_ | refine k7 ?_ | refine k8 ?_ | refine And.intro ?_ ?_ | exact trivial | refine o3 ?_ | refine o4 ?_ | refine o5 ?_ | refine o6 ?_ | refine k5 ?_ | (intro h; first | exact Bool.noConfusion h | exact nz _ h | exact nl h | (simp at h; done) | (simp at h; first | (exfalso; omega) | skip) | skip) | (change retOk _ _ _ _; refine ret_pure rfl trivial ?_) | exact (rfl : allOne _ = true) | (refine (?_ : (0 : Int) ≤ _); omega) | (refine (?_ : _ ≠ _); omega) | (refine (?_ : srcLen _ = rowsLen _); rfl) | exact Nat.le_of_ble_eq_true rfl | exact (by kernel_rfl : drawOk _ _ = true) | refine eqv_len_map ?_ | refine eqv_size ?_ | refine eqv_put (eqv_ck ?_) | refine eqv_zero ?_ | refine eqv_wrap (by omega) (by omega) ?_ | refine eqv_u64 (by omega) (by omega) ?_ | refine eqv_u8 (by omega) (by omega) ?_ | refine eqv_to _ (set_map rfl rfl) ?_ | refine ⟨_, _, (by first | rfl | assumption), at_map (by assumption), ?_⟩ | refine ⟨_, _, (by first | rfl | assumption), (by assumption), ?_⟩ | refine ⟨_, at_map (by assumption), (by decide), ?_⟩ | refine ⟨_, at_map (by assumption), ?_⟩ | (refine (?_ : _ ≤ 140737488355328); simp [rowsLen] <;> omega) | (refine (?_ : _ ≤ 9223372036854775807); simp [rowsLen] <;> omega) | (refine (?_ : _ = rowsLen _); simp [rowsLen] <;> omega) | refine eqv_to _ (app_row rfl) (eqv_to _ app_len ?_) | refine eqv_to _ (app_first rfl) (eqv_to 1 rfl ?_) | refine idx_sl (at_map (by assumption)) (by omega) ?_ | refine idx_ms _ (by first | rfl | assumption) (by first | assumption | omega) ?_ | fail)
  change retOk _ _ _ _
  refine ret_pure (r0 := .pv (.sl 6 ((((x :: l).map Sess.row).drop 0).take (x :: l).length))) rfl ?_ (by rw [List.drop_zero, List.take_of_length_le (by simp)]; rfl)
  show Nat.le _ _
  simp
set_option maxHeartbeats 2000000 in
theorem clone_empty (ad : Option Addr) (cap : Nat) (w : World) : Calls Tryz.prog 38 #[.slice ad 0 cap] w fun e w' => ∃ v', e = .returned v' ∧ w'.ownsRow w.heap.size 51 6 v' 0 [] ∧ Below w.heap.size w w' ∧ w.drawn ≤ w'.drawn := by
  have t4 := Tryz.underlying4; have a4 := Tryz.isAgg4; have z4 := Tryz.sizeOf4; have v4 := Tryz.zeroValue4
  have t9 := Tryz.underlying51; have a9 := Tryz.isAgg51; have z9 := Tryz.sizeOf51; have v9 := Tryz.zeroValue51
  have t28 := Tryz.underlying22; have a28 := Tryz.isAgg22; have z28 := Tryz.sizeOf22; have v28 := Tryz.zeroValue22
  have mx : Tryz.prog.follows .mixedOrders = true := mixed
  have q28 : ∀ (w : World) (a : Option Addr) (n c n' c' : Nat), (binOp .eql 22 (.slice a n c) (.slice none n' c')).run Tryz.prog w = .ok (.bool a.isNone) w := fun w a n c n' c' => Lib.run_eql_slice_nil w _ _ a n c n' c' t28
  have u28 : ∀ w, Sem.run Tryz.prog (underlying 22) w = .ok (TypeDesc.slice 51) w := run_underlying t28
  cases ad with
  | none =>
    go_enter Tryz.func38, Tryz.ntmps38
    go_wp2
    go_ret
    exact ⟨_, rfl, ⟨rfl, .inl ⟨rfl, rfl⟩⟩, Below.refl _ w, Nat.le_refl _⟩
  | some a =>
    go_enter Tryz.func38, Tryz.ntmps38
    go_wp2
    go_ret
    exact ⟨_, rfl, World.ownsRow_made w #[] 0 (Nat.le_refl _) (Nat.zero_le _) rfl, (Below.refl _ w).alloc (Nat.le_refl _) _, Nat.le_refl _⟩
theorem c_cloneS (l : List Sess) (hl : l.length ≤ 2199023255552) : PCall Tryz.prog 38 [.pv (encSess l)] (fun r => r = .pv (encSess l)) := by
  rcases l with _ | ⟨x, l⟩
  · refine ⟨(c_cloneS1 [zeroS] (by decide)).1, fun I β w vs hH hs ha => ?_⟩
    have hv := ha 0 _ rfl
    obtain rfl : β = [] := List.eq_nil_of_length_eq_zero hH.len
    obtain ⟨v, rfl⟩ : ∃ v, vs = #[v] := ⟨vs[0]'(by rw [hs]; decide), by
      apply Array.ext
      · exact hs
      · intro i h1 h2
        have : i = 0 := by simp at h2; omega
        subst this; rfl⟩
    have hv : ARel I [] w (.pv (encSess [])) v := hv
    obtain ⟨ad, cap, rfl⟩ : ∃ ad cap, v = .slice ad 0 cap := by
      cases hv with
      | pv h =>
        have h : PRel I w (.sl 6 []) v := h
        cases h with
        | sl u hc h1 h2 => exact ⟨_, _, rfl⟩
    refine (clone_empty ad cap w).mono ?_
    rintro e w' ⟨v', rfl, ho, hb, hd⟩
    obtain ⟨I', β', h1, h2, h3⟩ := own_none hH ho hb hd
    exact ⟨_, _, I', β', v', rfl, ⟨rfl, rfl⟩, h1, h2, h3⟩
  · exact c_cloneS1 (x :: l) ⟨by simp, hl⟩
theorem c_clip (c : List Chg) (hc : c.length ≤ 1000000000) : PCall Tryz.prog 37 [.pv (encChgs c)] (fun r => r = .clip 3 (c.map Chg.row)) := by
  refine acall_of tok mixed 9 rfl (fn := Tryz.f37) (c := Tryz.f37.body.getD .skip) (by kernel_rfl) (by kernel_rfl) (by kernel_rfl) rfl 0 rfl ?_
  repeat' (first | refine o1 ?_ | refine o2 ?_ | refine k1 ?_ | refine k2 ?_ | refine k3 ?_ | refine k4 ?_ | refine k6 ?_ | refine k7 ?_ | refine k8 ?_ | refine And.intro ?_ ?_ | exact trivial | refine o3 ?_ | refine o4 ?_ | refine o5 ?_ | refine o6 ?_ | refine k5 ?_ | (intro h; first | exact Bool.noConfusion h | exact nz _ h | exact nl h | (simp at h; done) | (simp at h; first | (exfalso; omega) | skip) | skip) | (change retOk _ _ _ _; refine ret_pure rfl trivial ?_) | exact (rfl : allOne _ = true) | (refine (?_ : (0 : Int) ≤ _); omega) | (refine (?_ : _ ≠ _); omega) | (refine (?_ : srcLen _ = rowsLen _); rfl) | exact Nat.le_of_ble_eq_true rfl | exact (by kernel_rfl : drawOk _ _ = true) | refine eqv_len_map ?_ | refine eqv_size ?_ | refine eqv_put (eqv_ck ?_) | refine eqv_zero ?_ | refine eqv_wrap (by omega) (by omega) ?_ | refine eqv_u64 (by omega) (by omega) ?_ | refine eqv_u8 (by omega) (by omega) ?_ | refine eqv_to _ (set_map rfl rfl) ?_ | refine ⟨_, _, (by first | rfl | assumption), at_map (by assumption), ?_⟩ | refine ⟨_, _, (by first | rfl | assumption), (by assumption), ?_⟩ | refine ⟨_, at_map (by assumption), (by decide), ?_⟩ | refine ⟨_, at_map (by assumption), ?_⟩ | (refine (?_ : _ ≤ 140737488355328); simp [rowsLen] <;> omega) | (refine (?_ : _ ≤ 9223372036854775807); simp [rowsLen] <;> omega) | (refine (?_ : _ = rowsLen _); simp [rowsLen] <;> omega) | refine eqv_to _ (app_row rfl) (eqv_to _ app_len ?_) | refine eqv_to _ (app_first rfl) (eqv_to 1 rfl ?_) | refine idx_sl (at_map (by assumption)) (by omega) ?_ | refine idx_ms _ (by first | rfl | assumption) (by first | assumption | omega) ?_ | fail)
  · exact (congrArg Int.ofNat (List.length_map _)).symm
  · exact (congrArg Int.ofNat (List.length_map _)).symm
  · exact ⟨[], [], rfl, rfl, trivial, .inl ⟨.clip 3 (c.map Chg.row), rfl, rfl, rfl⟩⟩
end Go.Proofs.YtbcacaodfpgflaaGreatDoor.Cw

/-
  Contracts: the reference's classes, Diff.
-/
namespace Go.Proofs.YtbcacaodfpgflaaGreatDoor.Cw
open Go Go.Cw Go.Proofs
set_option linter.unusedVariables false
set_option maxRecDepth 100000
set_option maxHeartbeats 8000000

def preK (a b : List Sess) : Nat → List Str
  | 0 => []
  | 1 => a.map Sess.cls
  | _ + 2 => a.map Sess.cls ++ b.map Sess.cls
theorem clsOf_len {L : List Str} : (clsOf L).length ≤ L.length := by
  unfold clsOf
  have := compactS_len (sortS L)
  rwa [sortS_len] at this
def putK2 (L : List Str) (x : Str) (k : Nat) : List Str := L.take k ++ [x] ++ L.drop k
theorem pre_row {a b : List Sess} {i : Nat} (ha : a.length ≤ 1000000000) (hb : b.length ≤ 1000000000) (hi : i < 2) : ∃ l : List Sess, ([[encSess a], [encSess b]] : List (List PV))[i]? = some [encSess l] ∧ preK a b (i + 1) = preK a b i ++ l.map Sess.cls ∧ l.length ≤ 1000000000 ∧ (preK a b i).length ≤ 1000000000 := by
  rcases i with _ | _ | i
  · exact ⟨a, rfl, rfl, ha, Nat.zero_le _⟩
  · exact ⟨b, rfl, rfl, hb, by simpa [preK] using ha⟩
  · omega
theorem c_rclasses0 (a b : List Sess) (ha : a.length ≤ 1000000000) (hb : b.length ≤ 1000000000) : PCall Tryz.prog 32 [.pv (encSess a), .pv (encSess b)] (fun r => Leq r (.pv (.sl 1 ((clsU a b).map strRow)))) := by
  refine acall_of tok mixed 77 rfl (fn := Tryz.f32) (c := Tryz.f32.body.getD .skip) (by kernel_rfl) (by kernel_rfl) (by kernel_rfl) rfl 0 rfl ?_
  repeat' (first | refine o1 ?_ | refine o2 ?_ | refine k1 ?_ | refine k2 ?_ | refine k3 ?_ | refine k4 ?_ | refine k6 ?_ | refine k7 ?_ | refine k8 ?_ | refine And.intro ?_ ?_ | exact trivial | refine o3 ?_ | refine o4 ?_ | refine o5 ?_ | refine o6 ?_ | refine k5 ?_ | (intro h; first | exact Bool.noConfusion h | exact nz _ h | exact nl h | (simp at h; done) | (simp at h; first | (exfalso; omega) | skip) | skip) | (change retOk _ _ _ _; refine ret_pure rfl trivial ?_) | exact (rfl : allOne _ = true) | (refine (?_ : (0 : Int) ≤ _); omega) | (refine (?_ : _ ≠ _); omega) | (refine (?_ : srcLen _ = rowsLen _); rfl) | exact Nat.le_of_ble_eq_true rfl | exact (by kernel_rfl : drawOk _ _ = true) | refine eqv_len_map ?_ | refine eqv_size ?_ | refine eqv_put (eqv_ck ?_) | refine eqv_zero ?_ | refine eqv_wrap (by omega) (by omega) ?_ | refine eqv_u64 (by omega) (by omega) ?_ | refine eqv_u8 (by omega) (by omega) ?_ | refine eqv_to _ (set_map rfl rfl) ?_ | refine ⟨_, _, (by first | rfl | assumption), at_map (by assumption), ?_⟩ | refine ⟨_, _, (by first | rfl | assumption), (by assumption), ?_⟩ | refine ⟨_, at_map (by assumption), (by decide), ?_⟩ | refine ⟨_, at_map (by assumption), ?_⟩ | (refine (?_ : _ ≤ 140737488355328); simp [rowsLen] <;> omega) | (refine (?_ : _ ≤ 9223372036854775807); simp [rowsLen] <;> omega) | (refine (?_ : _ = rowsLen _); simp [rowsLen] <;> omega) | refine eqv_to _ (app_row rfl) (eqv_to _ app_len ?_) | refine eqv_to _ (app_first rfl) (eqv_to 1 rfl ?_) | refine idx_sl (at_map (by assumption)) (by omega) ?_ | refine idx_ms _ (by first | rfl | assumption) (by first | assumption | omega) ?_ | fail)
  refine loop_for (fun i : Nat => [(5, .pv (.sl 1 ((clsOf (preK a b i)).map strRow))), (13, .ms 0 1 0 2), (14, vint .i64 (2 : Nat)), (15, vint .i64 i)]) (fun i => [some ⟨22, 1, false, .p [[encSess a], [encSess b]]⟩]) (fun i => i ≤ 2) (fun i => 2 - i) 0 (Nat.zero_le _) ?_ ?_
  · have e : clsOf (preK a b 0) = [] := List.eq_nil_iff_forall_not_mem.2 fun x h => by cases clsOf_mem.1 h
    rw [e]
    exact (Ghost.weak (s := 5) rfl (ALe.pv PLe.nil)).trans (back [0] rfl rfl ⟨rfl, trivial⟩ (by repeat' (first | exact trivial | exact rfl | exact ren_get rfl | refine kept_ob rfl ?_ | exact ⟨_, rfl, ALe.refl⟩ | refine And.intro ?_ ?_)))
  intro i hi
  rcases Nat.lt_or_ge i 2 with hi2 | hi2
  · obtain ⟨l, hl, hpk, hll, hpl⟩ := pre_row (a := a) (b := b) (i := i) ha hb hi2
    generalize preK a b i = Q at *
    repeat' (first | (refine ⟨i, rfl, hi2, ?_⟩) | (refine ⟨_, hl, ?_⟩) | refine o1 ?_ | refine o2 ?_ | refine k1 ?_ | refine k2 ?_ | refine k3 ?_ | refine k4 ?_ | refine k6 ?_ | refine k7 ?_ | refine k8 ?_ | refine And.intro ?_ ?_ | exact trivial | refine o3 ?_ | refine o4 ?_ | refine o5 ?_ | refine o6 ?_ | refine k5 ?_ | (intro h; first | exact Bool.noConfusion h | exact nz _ h | exact nl h | (simp at h; done) | (simp at h; first | (exfalso; omega) | skip) | skip) | (change retOk _ _ _ _; refine ret_pure rfl trivial ?_) | exact (rfl : allOne _ = true) | (refine (?_ : (0 : Int) ≤ _); omega) | (refine (?_ : _ ≠ _); omega) | (refine (?_ : srcLen _ = rowsLen _); rfl) | exact Nat.le_of_ble_eq_true rfl | exact (by kernel_rfl : drawOk _ _ = true) | refine eqv_len_map ?_ | refine eqv_size ?_ | refine eqv_put (eqv_ck ?_) | refine eqv_zero ?_ | refine eqv_wrap (by omega) (by omega) ?_ | refine eqv_u64 (by omega) (by omega) ?_ | refine eqv_u8 (by omega) (by omega) ?_ | refine eqv_to _ (set_map rfl rfl) ?_ | refine ⟨_, _, (by first | rfl | assumption), at_map (by assumption), ?_⟩ | refine ⟨_, _, (by first | rfl | assumption), (by assumption), ?_⟩ | refine ⟨_, at_map (by assumption), (by decide), ?_⟩ | refine ⟨_, at_map (by assumption), ?_⟩ | (refine (?_ : _ ≤ 140737488355328); simp [rowsLen] <;> omega) | (refine (?_ : _ ≤ 9223372036854775807); simp [rowsLen] <;> omega) | (refine (?_ : _ = rowsLen _); simp [rowsLen] <;> omega) | refine eqv_to _ (app_row rfl) (eqv_to _ app_len ?_) | refine eqv_to _ (app_first rfl) (eqv_to 1 rfl ?_) | refine idx_sl (at_map (by assumption)) (by omega) ?_ | refine idx_ms _ (by first | rfl | assumption) (by first | assumption | omega) ?_ | fail)
    refine loop_for (fun j : Nat => [(5, .pv (.sl 1 ((clsOf (Q ++ (l.take j).map Sess.cls)).map strRow))), (7, .pv (encSess l)), (8, vint .i64 j), (13, .ms 0 1 0 2), (14, vint .i64 (2 : Nat)), (15, vint .i64 i)]) (fun _ => [some ⟨22, 1, false, .p [[encSess a], [encSess b]]⟩]) (fun j => j ≤ l.length) (fun j => l.length - j) 0 (Nat.zero_le _) ?_ ?_
    · show Ghost _ _ _ _ [(5, .pv (.sl 1 ((clsOf (Q ++ [])).map strRow))), _, _, _, _, _] _
      rw [List.append_nil]
      exact back [0] rfl rfl ⟨rfl, trivial⟩ (by repeat' (first | exact trivial | exact rfl | exact ren_get rfl | refine kept_ob rfl ?_ | exact ⟨_, rfl, ALe.refl⟩ | refine And.intro ?_ ?_))
    intro j hj
    rcases Nat.lt_or_ge j l.length with hlt | hge
    · obtain ⟨s, hs⟩ := getE hlt
      have htk : Q ++ (l.take (j + 1)).map Sess.cls = (Q ++ (l.take j).map Sess.cls) ++ [s.cls] := by rw [take_snoc hs, List.map_append, List.append_assoc]; rfl
      have hln := clsOf_len (L := Q ++ (l.take j).map Sess.cls)
      have hlm : (Q ++ (l.take j).map Sess.cls).length ≤ 2000000000 := by simp; omega
      generalize Q ++ (l.take j).map Sess.cls = X at *
      have hput := fun k h1 h2 => clsOf_put (L := X) (x := s.cls) (k := k) h1 h2
      have hhave := clsOf_have (L := X) (x := s.cls)
      rw [← htk] at hput hhave
      generalize clsOf X = L at *
      repeat' (first | refine o1 ?_ | refine o2 ?_ | refine k1 ?_ | refine k2 ?_ | refine k3 ?_ | refine k4 ?_ | refine k6 ?_ | refine k7 ?_ | refine k8 ?_ | refine And.intro ?_ ?_ | exact trivial | refine o3 ?_ | refine o4 ?_ | refine o5 ?_ | refine o6 ?_ | refine k5 ?_ | (intro h; first | exact Bool.noConfusion h | exact nz _ h | exact nl h | (simp at h; done) | (simp at h; first | (exfalso; omega) | skip) | skip) | (change retOk _ _ _ _; refine ret_pure rfl trivial ?_) | exact (rfl : allOne _ = true) | (refine (?_ : (0 : Int) ≤ _); omega) | (refine (?_ : _ ≠ _); omega) | (refine (?_ : srcLen _ = rowsLen _); rfl) | exact Nat.le_of_ble_eq_true rfl | exact (by kernel_rfl : drawOk _ _ = true) | refine eqv_len_map ?_ | refine eqv_size ?_ | refine eqv_put (eqv_ck ?_) | refine eqv_zero ?_ | refine eqv_wrap (by omega) (by omega) ?_ | refine eqv_u64 (by omega) (by omega) ?_ | refine eqv_u8 (by omega) (by omega) ?_ | refine eqv_to _ (set_map rfl rfl) ?_ | refine ⟨_, _, (by first | rfl | assumption), at_map (by assumption), ?_⟩ | refine ⟨_, _, (by first | rfl | assumption), (by assumption), ?_⟩ | refine ⟨_, at_map (by assumption), (by decide), ?_⟩ | refine ⟨_, at_map (by assumption), ?_⟩ | (refine (?_ : _ ≤ 140737488355328); simp [rowsLen] <;> omega) | (refine (?_ : _ ≤ 9223372036854775807); simp [rowsLen] <;> omega) | (refine (?_ : _ = rowsLen _); simp [rowsLen] <;> omega) | refine eqv_to _ (app_row rfl) (eqv_to _ app_len ?_) | refine eqv_to _ (app_first rfl) (eqv_to 1 rfl ?_) | refine idx_sl (at_map (by assumption)) (by omega) ?_ | refine idx_ms _ (by first | rfl | assumption) (by first | assumption | omega) ?_ | fail)
      refine loop_at (fun k : Nat => [(9, vint .i64 k)]) (fun _ => []) (fun k => k ≤ L.length ∧ ∀ m, m < k → ∀ y, L[m]? = some y → sLt y s.cls = true) (fun k => L.length - k) 0 ⟨Nat.zero_le _, fun m hm => by omega⟩ (by repeat' (first | exact trivial | exact rfl | exact ⟨_, rfl, ALe.refl⟩ | refine And.intro ?_ ?_)) (by repeat' (first | exact trivial | exact rfl | exact ⟨_, rfl, ALe.refl⟩ | refine And.intro ?_ ?_)) ?_
      intro k ⟨hk, hall⟩
      rcases Nat.lt_or_ge k L.length with hkl | hkg
      · obtain ⟨y, hy⟩ := getE hkl
        repeat' (first | (refine idx_sl (k := k) (at_map hy) (by omega) ?_) | (refine idx_sl (k := j) (at_map hs) rfl ?_) | (refine slice_to (i := k) (by omega) ?_) | ((refine o_appL (id := 1) (rows := []) rfl rfl rfl rfl rfl rfl rfl rfl rfl rfl rfl (by rw [List.length_map, List.length_take]; show (0 + _) * _ ≤ _; omega) (by rw [List.length_map, List.length_take]; show 0 + _ ≤ _; omega) ?_)) | ((refine o_appD rfl rfl rfl rfl rfl rfl rfl rfl rfl rfl rfl (by show (([] ++ _ : List (List PV)).length + 1) * _ ≤ _; rw [List.nil_append, List.length_map, List.length_take]; omega) (by show ([] ++ _ : List (List PV)).length + 1 ≤ _; rw [List.nil_append, List.length_map, List.length_take]; omega) ?_)) | (refine fv_sl ?_) | (refine fh_ob ?_) | (refine slice_at (i := k) (by omega) ?_) | (refine (eqv_rfl ?_ : eqv (Rows.p _) _)) | (refine (eqv_rfl ?_ : eqv (rowsLen _) _)) | refine o1 ?_ | refine o2 ?_ | refine k1 ?_ | refine k2 ?_ | refine k3 ?_ | refine k4 ?_ | refine k6 ?_ | refine k7 ?_ | refine k8 ?_ | refine And.intro ?_ ?_ | exact trivial | refine o3 ?_ | refine o4 ?_ | refine o5 ?_ | refine o6 ?_ | refine k5 ?_ | (intro h; first | exact Bool.noConfusion h | exact nz _ h | exact nl h | (simp at h; done) | (simp at h; first | (exfalso; omega) | skip) | skip) | (change retOk _ _ _ _; refine ret_pure rfl trivial ?_) | exact (rfl : allOne _ = true) | (refine (?_ : (0 : Int) ≤ _); omega) | (refine (?_ : _ ≠ _); omega) | (refine (?_ : srcLen _ = rowsLen _); rfl) | exact Nat.le_of_ble_eq_true rfl | exact (by kernel_rfl : drawOk _ _ = true) | refine eqv_len_map ?_ | refine eqv_size ?_ | refine eqv_put (eqv_ck ?_) | refine eqv_zero ?_ | refine eqv_wrap (by omega) (by omega) ?_ | refine eqv_u64 (by omega) (by omega) ?_ | refine eqv_u8 (by omega) (by omega) ?_ | refine eqv_to _ (set_map rfl rfl) ?_ | refine ⟨_, _, (by first | rfl | assumption), at_map (by assumption), ?_⟩ | refine ⟨_, _, (by first | rfl | assumption), (by assumption), ?_⟩ | refine ⟨_, at_map (by assumption), (by decide), ?_⟩ | refine ⟨_, at_map (by assumption), ?_⟩ | (refine (?_ : _ ≤ 140737488355328); simp [rowsLen] <;> omega) | (refine (?_ : _ ≤ 9223372036854775807); simp [rowsLen] <;> omega) | (refine (?_ : _ = rowsLen _); simp [rowsLen] <;> omega) | refine eqv_to _ (app_row rfl) (eqv_to _ app_len ?_) | refine eqv_to _ (app_first rfl) (eqv_to 1 rfl ?_) | refine idx_sl (at_map (by assumption)) (by omega) ?_ | refine idx_ms _ (by first | rfl | assumption) (by first | assumption | omega) ?_ | fail)
        all_goals try (exfalso; omega)
        all_goals first
          | exact ⟨k + 1, ⟨by omega, all_lt_succ hall fun z hz => by rw [hy] at hz; cases hz; exact (by assumption : sLt y s.cls = true)⟩, by omega, back [0] rfl rfl ⟨rfl, trivial⟩ (by repeat' (first | exact trivial | exact rfl | exact ren_get rfl | refine kept_ob rfl ?_ | exact ⟨_, rfl, ALe.refl⟩ | (refine slot_eq rfl (congrArg (vint .i64) ?_); omega) | refine And.intro ?_ ?_))⟩
          | (have g2 : sEq y s.cls = true := by assumption
             refine ⟨j + 1, hlt, by omega, ?_⟩
             rw [hhave (by rw [← sEq_iff.1 g2]; exact List.mem_of_getElem? hy)]
             exact back [0] rfl rfl ⟨rfl, trivial⟩ (by repeat' (first | exact trivial | exact rfl | exact ren_get rfl | refine kept_ob rfl ?_ | exact ⟨_, rfl, ALe.refl⟩ | (refine slot_eq rfl (congrArg (vint .i64) ?_); omega) | refine And.intro ?_ ?_)))
          | (have g1 : sLt y s.cls = false := by assumption
             have g2 : sEq y s.cls = false := by assumption
             have he : (L.take k).map strRow ++ [[es s.cls]] ++ (L.drop k).map strRow = (clsOf (Q ++ (l.take (j + 1)).map Sess.cls)).map strRow := by rw [hput k hall (fun z hz => by rw [hy] at hz; cases hz; cases hq : sLt s.cls y with | true => rfl | false => exact absurd (sLt_conn g1 hq) (sEq_f.1 g2)), List.map_append, List.map_append]; rfl
             refine ⟨j + 1, hlt, by omega, ?_⟩
             refine Ghost.slX (s := 5) (id := 4) rfl rfl rfl (fun e => by have := congrArg List.length e; simp at this) he fun H' hl hH => back [0] rfl rfl ⟨(hH 0 (by decide)).trans rfl, trivial⟩ (by repeat' (first | exact trivial | exact rfl | exact ren_get rfl | refine kept_ob rfl ?_ | exact ⟨_, rfl, ALe.refl⟩ | (refine slot_eq rfl (congrArg (vint .i64) ?_); omega) | refine And.intro ?_ ?_)))
      · repeat' (first | (refine idx_sl (k := j) (at_map hs) rfl ?_) | (refine slice_to (i := k) (by omega) ?_) | ((refine o_appL (id := 1) (rows := []) rfl rfl rfl rfl rfl rfl rfl rfl rfl rfl rfl (by rw [List.length_map, List.length_take]; show (0 + _) * _ ≤ _; omega) (by rw [List.length_map, List.length_take]; show 0 + _ ≤ _; omega) ?_)) | ((refine o_appD rfl rfl rfl rfl rfl rfl rfl rfl rfl rfl rfl (by show (([] ++ _ : List (List PV)).length + 1) * _ ≤ _; rw [List.nil_append, List.length_map, List.length_take]; omega) (by show ([] ++ _ : List (List PV)).length + 1 ≤ _; rw [List.nil_append, List.length_map, List.length_take]; omega) ?_)) | (refine fv_sl ?_) | (refine fh_ob ?_) | (refine slice_at (i := k) (by omega) ?_) | (refine (eqv_rfl ?_ : eqv (Rows.p _) _)) | (refine (eqv_rfl ?_ : eqv (rowsLen _) _)) | refine o1 ?_ | refine o2 ?_ | refine k1 ?_ | refine k2 ?_ | refine k3 ?_ | refine k4 ?_ | refine k6 ?_ | refine k7 ?_ | refine k8 ?_ | refine And.intro ?_ ?_ | exact trivial | refine o3 ?_ | refine o4 ?_ | refine o5 ?_ | refine o6 ?_ | refine k5 ?_ | (intro h; first | exact Bool.noConfusion h | exact nz _ h | exact nl h | (simp at h; done) | (simp at h; first | (exfalso; omega) | skip) | skip) | (change retOk _ _ _ _; refine ret_pure rfl trivial ?_) | exact (rfl : allOne _ = true) | (refine (?_ : (0 : Int) ≤ _); omega) | (refine (?_ : _ ≠ _); omega) | (refine (?_ : srcLen _ = rowsLen _); rfl) | exact Nat.le_of_ble_eq_true rfl | exact (by kernel_rfl : drawOk _ _ = true) | refine eqv_len_map ?_ | refine eqv_size ?_ | refine eqv_put (eqv_ck ?_) | refine eqv_zero ?_ | refine eqv_wrap (by omega) (by omega) ?_ | refine eqv_u64 (by omega) (by omega) ?_ | refine eqv_u8 (by omega) (by omega) ?_ | refine eqv_to _ (set_map rfl rfl) ?_ | refine ⟨_, _, (by first | rfl | assumption), at_map (by assumption), ?_⟩ | refine ⟨_, _, (by first | rfl | assumption), (by assumption), ?_⟩ | refine ⟨_, at_map (by assumption), (by decide), ?_⟩ | refine ⟨_, at_map (by assumption), ?_⟩ | (refine (?_ : _ ≤ 140737488355328); simp [rowsLen] <;> omega) | (refine (?_ : _ ≤ 9223372036854775807); simp [rowsLen] <;> omega) | (refine (?_ : _ = rowsLen _); simp [rowsLen] <;> omega) | refine eqv_to _ (app_row rfl) (eqv_to _ app_len ?_) | refine eqv_to _ (app_first rfl) (eqv_to 1 rfl ?_) | refine idx_sl (at_map (by assumption)) (by omega) ?_ | refine idx_ms _ (by first | rfl | assumption) (by first | assumption | omega) ?_ | fail)
        all_goals try (exfalso; omega)
        all_goals
          have he : (L.take k).map strRow ++ [[es s.cls]] ++ (L.drop k).map strRow = (clsOf (Q ++ (l.take (j + 1)).map Sess.cls)).map strRow := by rw [hput k hall (fun y hy => by rw [List.getElem?_eq_none hkg] at hy; cases hy), List.map_append, List.map_append]; rfl
          refine ⟨j + 1, hlt, by omega, ?_⟩
          refine Ghost.slX (s := 5) (id := 4) rfl rfl rfl (fun e => by have := congrArg List.length e; simp at this) he fun H' hl hH => back [0] rfl rfl ⟨(hH 0 (by decide)).trans rfl, trivial⟩ (by repeat' (first | exact trivial | exact rfl | exact ren_get rfl | refine kept_ob rfl ?_ | exact ⟨_, rfl, ALe.refl⟩ | (refine slot_eq rfl (congrArg (vint .i64) ?_); omega) | refine And.intro ?_ ?_))
    · obtain rfl : j = l.length := by omega
      rw [List.take_length, ← hpk]
      repeat' (first | refine o1 ?_ | refine o2 ?_ | refine k1 ?_ | refine k2 ?_ | refine k3 ?_ | refine k4 ?_ | refine k6 ?_ | refine k7 ?_ | refine k8 ?_ | refine And.intro ?_ ?_ | exact trivial | refine o3 ?_ | refine o4 ?_ | refine o5 ?_ | refine o6 ?_ | refine k5 ?_ | (intro h; first | exact Bool.noConfusion h | exact nz _ h | exact nl h | (simp at h; done) | (simp at h; first | (exfalso; omega) | skip) | skip) | (change retOk _ _ _ _; refine ret_pure rfl trivial ?_) | exact (rfl : allOne _ = true) | (refine (?_ : (0 : Int) ≤ _); omega) | (refine (?_ : _ ≠ _); omega) | (refine (?_ : srcLen _ = rowsLen _); rfl) | exact Nat.le_of_ble_eq_true rfl | exact (by kernel_rfl : drawOk _ _ = true) | refine eqv_len_map ?_ | refine eqv_size ?_ | refine eqv_put (eqv_ck ?_) | refine eqv_zero ?_ | refine eqv_wrap (by omega) (by omega) ?_ | refine eqv_u64 (by omega) (by omega) ?_ | refine eqv_u8 (by omega) (by omega) ?_ | refine eqv_to _ (set_map rfl rfl) ?_ | refine ⟨_, _, (by first | rfl | assumption), at_map (by assumption), ?_⟩ | refine ⟨_, _, (by first | rfl | assumption), (by assumption), ?_⟩ | refine ⟨_, at_map (by assumption), (by decide), ?_⟩ | refine ⟨_, at_map (by assumption), ?_⟩ | (refine (?_ : _ ≤ 140737488355328); simp [rowsLen] <;> omega) | (refine (?_ : _ ≤ 9223372036854775807); simp [rowsLen] <;> omega) | (refine (?_ : _ = rowsLen _); simp [rowsLen] <;> omega) | refine eqv_to _ (app_row rfl) (eqv_to _ app_len ?_) | refine eqv_to _ (app_first rfl) (eqv_to 1 rfl ?_) | refine idx_sl (at_map (by assumption)) (by omega) ?_ | refine idx_ms _ (by first | rfl | assumption) (by first | assumption | omega) ?_ | fail)
      exact ⟨i + 1, by omega, by omega, back [0] rfl rfl ⟨rfl, trivial⟩ (by repeat' (first | exact trivial | exact rfl | exact ren_get rfl | refine kept_ob rfl ?_ | exact ⟨_, rfl, ALe.refl⟩ | (refine slot_eq rfl (congrArg (vint .i64) ?_); omega) | refine And.intro ?_ ?_))⟩
  · obtain rfl : i = 2 := by omega
    repeat' (first | refine o1 ?_ | refine o2 ?_ | refine k1 ?_ | refine k2 ?_ | refine k3 ?_ | refine k4 ?_ | refine k6 ?_ | refine k7 ?_ | refine k8 ?_ | refine And.intro ?_ ?_ | exact trivial | refine o3 ?_ | refine o4 ?_ | refine o5 ?_ | refine o6 ?_ | refine k5 ?_ | (intro h; first | exact Bool.noConfusion h | exact nz _ h | exact nl h | (simp at h; done) | (simp at h; first | (exfalso; omega) | skip) | skip) | (change retOk _ _ _ _; refine ret_pure rfl trivial ?_) | exact (rfl : allOne _ = true) | (refine (?_ : (0 : Int) ≤ _); omega) | (refine (?_ : _ ≠ _); omega) | (refine (?_ : srcLen _ = rowsLen _); rfl) | exact Nat.le_of_ble_eq_true rfl | exact (by kernel_rfl : drawOk _ _ = true) | refine eqv_len_map ?_ | refine eqv_size ?_ | refine eqv_put (eqv_ck ?_) | refine eqv_zero ?_ | refine eqv_wrap (by omega) (by omega) ?_ | refine eqv_u64 (by omega) (by omega) ?_ | refine eqv_u8 (by omega) (by omega) ?_ | refine eqv_to _ (set_map rfl rfl) ?_ | refine ⟨_, _, (by first | rfl | assumption), at_map (by assumption), ?_⟩ | refine ⟨_, _, (by first | rfl | assumption), (by assumption), ?_⟩ | refine ⟨_, at_map (by assumption), (by decide), ?_⟩ | refine ⟨_, at_map (by assumption), ?_⟩ | (refine (?_ : _ ≤ 140737488355328); simp [rowsLen] <;> omega) | (refine (?_ : _ ≤ 9223372036854775807); simp [rowsLen] <;> omega) | (refine (?_ : _ = rowsLen _); simp [rowsLen] <;> omega) | refine eqv_to _ (app_row rfl) (eqv_to _ app_len ?_) | refine eqv_to _ (app_first rfl) (eqv_to 1 rfl ?_) | refine idx_sl (at_map (by assumption)) (by omega) ?_ | refine idx_ms _ (by first | rfl | assumption) (by first | assumption | omega) ?_ | fail)
    exact ⟨ALe.refl⟩
theorem c_rclasses (a b : List Sess) (ha : a.length ≤ 1000000000) (hb : b.length ≤ 1000000000) : PCall Tryz.prog 32 [.pv (encSess a), .pv (encSess b)] (fun r => r = .pv (.sl 1 ((clsU a b).map strRow))) := (c_rclasses0 a b ha hb).weak fun r k => ⟨_, k.le, rfl⟩
end Go.Proofs.YtbcacaodfpgflaaGreatDoor.Cw

/-
  Contracts: Diff by the reference; Apply on both sides.
-/
namespace Go.Proofs.YtbcacaodfpgflaaGreatDoor.Cw
open Go Go.Cw Go.Proofs
set_option linter.unusedVariables false
set_option maxRecDepth 100000
set_option maxHeartbeats 8000000

theorem c_rdiff0 (a b : List Sess) (w : Int) (ha : a.length ≤ 100000000) (hb : b.length ≤ 100000000) : PCall Tryz.prog 11 [.pv (encSess a), .pv (encSess b), vint .i64 w] (fun r => Leq r (.tup [.pv (encChgs (diffV a b w)), vint .i64 (diffE a b w)])) := by
  have hva := c_rvalid a w (by omega)
  have hvb := c_rvalid b w (by omega)
  by_cases h0 : validE a w = 0
  · by_cases h1 : validE b w = 0
    · obtain ⟨e1, e2⟩ := df3 h0 h1
      rw [e1, e2]
      rw [h0] at hva
      rw [h1] at hvb
      have la := (valid_parts h0).2.1
      have lb := (valid_parts h1).2.1
      have hrc := c_rclasses a b (by omega) (by omega)
      have hKl := clsU_len (a := a) (b := b)
      unfold chgV
      generalize clsU a b = K at *
      refine acall_of tok mixed 63 rfl (fn := Tryz.f11) (c := Tryz.f11.body.getD .skip) (by kernel_rfl) (by kernel_rfl) (by kernel_rfl) rfl 0 rfl ?_
      repeat' (first | ((change vcFun _ _ _ _ _; refine call_frz rfl (by repeat' (first | trivial | refine And.intro ?_ ?_ | (show 0 + _ ≤ List.length _; simp))) ALeL.refl hrc ?_; rintro _ rfl)) | refine o1 ?_ | refine o2 ?_ | refine k1 ?_ | refine k2 ?_ | refine k3 ?_ | refine k4 ?_ | refine k6 ?_ | refine k7 ?_ | refine k8 ?_ | refine And.intro ?_ ?_ | exact trivial | refine o3 ?_ | refine o4 ?_ | refine o5 ?_ | refine o6 ?_ | refine k5 ?_ | (intro h; first | exact Bool.noConfusion h | exact nz _ h | exact nl h | (simp at h; done) | (simp at h; first | (exfalso; omega) | skip) | skip) | (change retOk _ _ _ _; refine ret_pure rfl trivial ?_) | exact (rfl : allOne _ = true) | (refine (?_ : (0 : Int) ≤ _); omega) | (refine (?_ : _ ≠ _); omega) | (refine (?_ : srcLen _ = rowsLen _); rfl) | exact Nat.le_of_ble_eq_true rfl | exact (by kernel_rfl : drawOk _ _ = true) | refine eqv_len_map ?_ | refine eqv_size ?_ | refine eqv_put (eqv_ck ?_) | refine eqv_zero ?_ | refine eqv_wrap (by omega) (by omega) ?_ | refine eqv_u64 (by omega) (by omega) ?_ | refine eqv_u8 (by omega) (by omega) ?_ | refine eqv_to _ (set_map rfl rfl) ?_ | refine ⟨_, _, (by first | rfl | assumption), at_map (by assumption), ?_⟩ | refine ⟨_, _, (by first | rfl | assumption), (by assumption), ?_⟩ | refine ⟨_, at_map (by assumption), (by decide), ?_⟩ | refine ⟨_, at_map (by assumption), ?_⟩ | (refine (?_ : _ ≤ 140737488355328); simp [rowsLen] <;> omega) | (refine (?_ : _ ≤ 9223372036854775807); simp [rowsLen] <;> omega) | (refine (?_ : _ = rowsLen _); simp [rowsLen] <;> omega) | refine eqv_to _ (app_row rfl) (eqv_to _ app_len ?_) | refine eqv_to _ (app_first rfl) (eqv_to 1 rfl ?_) | refine idx_sl (at_map (by assumption)) (by omega) ?_ | refine idx_ms _ (by first | rfl | assumption) (by first | assumption | omega) ?_ | (change vcFun _ _ _ _ _; refine call_eq rfl (by repeat' (first | trivial | refine And.intro ?_ ?_ | (show 0 + _ ≤ List.length _; simp))) ALeL.refl (hva) rfl ?_) | (change vcFun _ _ _ _ _; refine call_eq rfl (by repeat' (first | trivial | refine And.intro ?_ ?_ | (show 0 + _ ≤ List.length _; simp))) ALeL.refl (hvb) rfl ?_) | fail)
      refine loop_for (fun i : Nat => [(0, .pv (encSess a)), (1, .pv (encSess b)), (10, slP 0 3 ((chgD a b (K.take i)).map Chg.row)), (11, .pv (.sl 1 (K.map strRow))), (12, vint .i64 i)]) (fun i => [obP 54 3 ((chgD a b (K.take i)).map Chg.row)]) (fun i => i ≤ K.length) (fun i => K.length - i) 0 (Nat.zero_le _) ?_ ?_
      · exact back [0] rfl rfl (by repeat' (first | exact trivial | exact rfl | exact ren_get rfl | refine kept_ob rfl ?_ | exact ⟨_, rfl, ALe.refl⟩ | refine And.intro ?_ ?_)) (by repeat' (first | exact trivial | exact rfl | exact ren_get rfl | refine kept_ob rfl ?_ | exact ⟨_, rfl, ALe.refl⟩ | refine And.intro ?_ ?_))
      intro i hi
      rcases Nat.lt_or_ge i K.length with hlt | hge
      · obtain ⟨k, hk⟩ := getE hlt
        have hal := ofC_leng (l := a) (c := k)
        have hbl := ofC_leng (l := b) (c := k)
        have heq := c_same (ofC a k) (ofC b k) (by omega) (by omega)
        have hdl := Nat.le_trans (chgD_len (a := a) (b := b) (K := K.take i)) (List.length_take_le ..)
        by_cases e : ofC a k = ofC b k
        · have hd := chgD_t (a := a) (b := b) hk e
          rw [pB_t e] at heq
          generalize chgD a b (K.take i) = D at *
          repeat' (first | (refine fv_sl ?_) | (refine fh_ob ?_) | (refine idx_sl (k := i) (at_map hk) rfl ?_) | refine o1 ?_ | refine o2 ?_ | refine k1 ?_ | refine k2 ?_ | refine k3 ?_ | refine k4 ?_ | refine k6 ?_ | refine k7 ?_ | refine k8 ?_ | refine And.intro ?_ ?_ | exact trivial | refine o3 ?_ | refine o4 ?_ | refine o5 ?_ | refine o6 ?_ | refine k5 ?_ | (intro h; first | exact Bool.noConfusion h | exact nz _ h | exact nl h | (simp at h; done) | (simp at h; first | (exfalso; omega) | skip) | skip) | (change retOk _ _ _ _; refine ret_pure rfl trivial ?_) | exact (rfl : allOne _ = true) | (refine (?_ : (0 : Int) ≤ _); omega) | (refine (?_ : _ ≠ _); omega) | (refine (?_ : srcLen _ = rowsLen _); rfl) | exact Nat.le_of_ble_eq_true rfl | exact (by kernel_rfl : drawOk _ _ = true) | refine eqv_len_map ?_ | refine eqv_size ?_ | refine eqv_put (eqv_ck ?_) | refine eqv_zero ?_ | refine eqv_wrap (by omega) (by omega) ?_ | refine eqv_u64 (by omega) (by omega) ?_ | refine eqv_u8 (by omega) (by omega) ?_ | refine eqv_to _ (set_map rfl rfl) ?_ | refine ⟨_, _, (by first | rfl | assumption), at_map (by assumption), ?_⟩ | refine ⟨_, _, (by first | rfl | assumption), (by assumption), ?_⟩ | refine ⟨_, at_map (by assumption), (by decide), ?_⟩ | refine ⟨_, at_map (by assumption), ?_⟩ | (refine (?_ : _ ≤ 140737488355328); simp [rowsLen] <;> omega) | (refine (?_ : _ ≤ 9223372036854775807); simp [rowsLen] <;> omega) | (refine (?_ : _ = rowsLen _); simp [rowsLen] <;> omega) | refine eqv_to _ (app_row rfl) (eqv_to _ app_len ?_) | refine eqv_to _ (app_first rfl) (eqv_to 1 rfl ?_) | refine idx_sl (at_map (by assumption)) (by omega) ?_ | refine idx_ms _ (by first | rfl | assumption) (by first | assumption | omega) ?_ | (change vcFunD _ _ _ _ _; refine callD_eq rfl (by repeat' (first | trivial | refine And.intro ?_ ?_ | (show 0 + _ ≤ List.length _; simp))) ALeL.refl (c_rof a k (by omega)) rfl ?_) | (change vcFunD _ _ _ _ _; refine callD_eq rfl (by repeat' (first | trivial | refine And.intro ?_ ?_ | (show 0 + _ ≤ List.length _; simp))) ALeL.refl (c_rof b k (by omega)) rfl ?_) | (change vcFun _ _ _ _ _; refine call_eq rfl (by repeat' (first | trivial | refine And.intro ?_ ?_ | (show 0 + _ ≤ List.length _; simp))) ALeL.refl (heq) rfl ?_) | fail)
          refine ⟨i + 1, hlt, by omega, ?_⟩
          rw [hd]
          exact back [0] rfl rfl (by repeat' (first | exact trivial | exact rfl | exact ren_get rfl | refine kept_ob rfl ?_ | exact ⟨_, rfl, ALe.refl⟩ | refine And.intro ?_ ?_)) (by repeat' (first | exact trivial | exact rfl | exact ren_get rfl | refine kept_ob rfl ?_ | exact ⟨_, rfl, ALe.refl⟩ | (refine slot_eq rfl (congrArg (vint .i64) ?_); omega) | refine And.intro ?_ ?_))
        · have hd := chgD_f (a := a) (b := b) hk e
          rw [pB_f e] at heq
          generalize chgD a b (K.take i) = D at *
          repeat' (first | (refine fv_sl ?_) | (refine fh_ob ?_) | (refine idx_sl (k := i) (at_map hk) rfl ?_) | ((refine o_app rfl rfl rfl rfl rfl rfl rfl rfl rfl rfl rfl (by simp; omega) (by simp; omega) ?_)) | refine o1 ?_ | refine o2 ?_ | refine k1 ?_ | refine k2 ?_ | refine k3 ?_ | refine k4 ?_ | refine k6 ?_ | refine k7 ?_ | refine k8 ?_ | refine And.intro ?_ ?_ | exact trivial | refine o3 ?_ | refine o4 ?_ | refine o5 ?_ | refine o6 ?_ | refine k5 ?_ | (intro h; first | exact Bool.noConfusion h | exact nz _ h | exact nl h | (simp at h; done) | (simp at h; first | (exfalso; omega) | skip) | skip) | (change retOk _ _ _ _; refine ret_pure rfl trivial ?_) | exact (rfl : allOne _ = true) | (refine (?_ : (0 : Int) ≤ _); omega) | (refine (?_ : _ ≠ _); omega) | (refine (?_ : srcLen _ = rowsLen _); rfl) | exact Nat.le_of_ble_eq_true rfl | exact (by kernel_rfl : drawOk _ _ = true) | refine eqv_len_map ?_ | refine eqv_size ?_ | refine eqv_put (eqv_ck ?_) | refine eqv_zero ?_ | refine eqv_wrap (by omega) (by omega) ?_ | refine eqv_u64 (by omega) (by omega) ?_ | refine eqv_u8 (by omega) (by omega) ?_ | refine eqv_to _ (set_map rfl rfl) ?_ | refine ⟨_, _, (by first | rfl | assumption), at_map (by assumption), ?_⟩ | refine ⟨_, _, (by first | rfl | assumption), (by assumption), ?_⟩ | refine ⟨_, at_map (by assumption), (by decide), ?_⟩ | refine ⟨_, at_map (by assumption), ?_⟩ | (refine (?_ : _ ≤ 140737488355328); simp [rowsLen] <;> omega) | (refine (?_ : _ ≤ 9223372036854775807); simp [rowsLen] <;> omega) | (refine (?_ : _ = rowsLen _); simp [rowsLen] <;> omega) | refine eqv_to _ (app_row rfl) (eqv_to _ app_len ?_) | refine eqv_to _ (app_first rfl) (eqv_to 1 rfl ?_) | refine idx_sl (at_map (by assumption)) (by omega) ?_ | refine idx_ms _ (by first | rfl | assumption) (by first | assumption | omega) ?_ | (change vcFunD _ _ _ _ _; refine callD_eq rfl (by repeat' (first | trivial | refine And.intro ?_ ?_ | (show 0 + _ ≤ List.length _; simp))) ALeL.refl (c_rof a k (by omega)) rfl ?_) | (change vcFunD _ _ _ _ _; refine callD_eq rfl (by repeat' (first | trivial | refine And.intro ?_ ?_ | (show 0 + _ ≤ List.length _; simp))) ALeL.refl (c_rof b k (by omega)) rfl ?_) | (change vcFun _ _ _ _ _; refine call_eq rfl (by repeat' (first | trivial | refine And.intro ?_ ?_ | (show 0 + _ ≤ List.length _; simp))) ALeL.refl (heq) rfl ?_) | fail)
          refine ⟨i + 1, hlt, by omega, ?_⟩
          rw [hd, map_snoc, sl_app, ob_app]
          exact back [2] rfl rfl (by repeat' (first | exact trivial | exact rfl | exact ren_get rfl | refine kept_ob rfl ?_ | exact ⟨_, rfl, ALe.refl⟩ | refine And.intro ?_ ?_)) (by repeat' (first | exact trivial | exact rfl | exact ren_get rfl | refine kept_ob rfl ?_ | exact ⟨_, rfl, ALe.refl⟩ | (refine slot_eq rfl (congrArg (vint .i64) ?_); omega) | refine And.intro ?_ ?_))
      · obtain rfl : i = K.length := by omega
        rw [List.take_length]
        repeat' (first | (refine fv_sl ?_) | (refine fh_ob ?_) | refine o1 ?_ | refine o2 ?_ | refine k1 ?_ | refine k2 ?_ | refine k3 ?_ | refine k4 ?_ | refine k6 ?_ | refine k7 ?_ | refine k8 ?_ | refine And.intro ?_ ?_ | exact trivial | refine o3 ?_ | refine o4 ?_ | refine o5 ?_ | refine o6 ?_ | refine k5 ?_ | (intro h; first | exact Bool.noConfusion h | exact nz _ h | exact nl h | (simp at h; done) | (simp at h; first | (exfalso; omega) | skip) | skip) | (change retOk _ _ _ _; refine ret_pure rfl trivial ?_) | exact (rfl : allOne _ = true) | (refine (?_ : (0 : Int) ≤ _); omega) | (refine (?_ : _ ≠ _); omega) | (refine (?_ : srcLen _ = rowsLen _); rfl) | exact Nat.le_of_ble_eq_true rfl | exact (by kernel_rfl : drawOk _ _ = true) | refine eqv_len_map ?_ | refine eqv_size ?_ | refine eqv_put (eqv_ck ?_) | refine eqv_zero ?_ | refine eqv_wrap (by omega) (by omega) ?_ | refine eqv_u64 (by omega) (by omega) ?_ | refine eqv_u8 (by omega) (by omega) ?_ | refine eqv_to _ (set_map rfl rfl) ?_ | refine ⟨_, _, (by first | rfl | assumption), at_map (by assumption), ?_⟩ | refine ⟨_, _, (by first | rfl | assumption), (by assumption), ?_⟩ | refine ⟨_, at_map (by assumption), (by decide), ?_⟩ | refine ⟨_, at_map (by assumption), ?_⟩ | (refine (?_ : _ ≤ 140737488355328); simp [rowsLen] <;> omega) | (refine (?_ : _ ≤ 9223372036854775807); simp [rowsLen] <;> omega) | (refine (?_ : _ = rowsLen _); simp [rowsLen] <;> omega) | refine eqv_to _ (app_row rfl) (eqv_to _ app_len ?_) | refine eqv_to _ (app_first rfl) (eqv_to 1 rfl ?_) | refine idx_sl (at_map (by assumption)) (by omega) ?_ | refine idx_ms _ (by first | rfl | assumption) (by first | assumption | omega) ?_ | fail)
        exact ret_sl2 (id := 0) (ty := 54) rfl rfl
    · obtain ⟨e1, e2⟩ := df2 h0 h1
      rw [e1, e2]
      rw [h0] at hva
      generalize validE b w = E at *
      refine acall_of tok mixed 63 rfl (fn := Tryz.f11) (c := Tryz.f11.body.getD .skip) (by kernel_rfl) (by kernel_rfl) (by kernel_rfl) rfl 0 rfl ?_
      repeat' (first | refine o1 ?_ | refine o2 ?_ | refine k1 ?_ | refine k2 ?_ | refine k3 ?_ | refine k4 ?_ | refine k6 ?_ | refine k7 ?_ | refine k8 ?_ | refine And.intro ?_ ?_ | exact trivial | refine o3 ?_ | refine o4 ?_ | refine o5 ?_ | refine o6 ?_ | refine k5 ?_ | (intro h; first | exact Bool.noConfusion h | exact nz _ h | exact nl h | (simp at h; done) | (simp at h; first | (exfalso; omega) | skip) | skip) | (change retOk _ _ _ _; refine ret_pure rfl trivial ?_) | exact (rfl : allOne _ = true) | (refine (?_ : (0 : Int) ≤ _); omega) | (refine (?_ : _ ≠ _); omega) | (refine (?_ : srcLen _ = rowsLen _); rfl) | exact Nat.le_of_ble_eq_true rfl | exact (by kernel_rfl : drawOk _ _ = true) | refine eqv_len_map ?_ | refine eqv_size ?_ | refine eqv_put (eqv_ck ?_) | refine eqv_zero ?_ | refine eqv_wrap (by omega) (by omega) ?_ | refine eqv_u64 (by omega) (by omega) ?_ | refine eqv_u8 (by omega) (by omega) ?_ | refine eqv_to _ (set_map rfl rfl) ?_ | refine ⟨_, _, (by first | rfl | assumption), at_map (by assumption), ?_⟩ | refine ⟨_, _, (by first | rfl | assumption), (by assumption), ?_⟩ | refine ⟨_, at_map (by assumption), (by decide), ?_⟩ | refine ⟨_, at_map (by assumption), ?_⟩ | (refine (?_ : _ ≤ 140737488355328); simp [rowsLen] <;> omega) | (refine (?_ : _ ≤ 9223372036854775807); simp [rowsLen] <;> omega) | (refine (?_ : _ = rowsLen _); simp [rowsLen] <;> omega) | refine eqv_to _ (app_row rfl) (eqv_to _ app_len ?_) | refine eqv_to _ (app_first rfl) (eqv_to 1 rfl ?_) | refine idx_sl (at_map (by assumption)) (by omega) ?_ | refine idx_ms _ (by first | rfl | assumption) (by first | assumption | omega) ?_ | (change vcFun _ _ _ _ _; refine call_eq rfl (by repeat' (first | trivial | refine And.intro ?_ ?_ | (show 0 + _ ≤ List.length _; simp))) ALeL.refl (hva) rfl ?_) | (change vcFun _ _ _ _ _; refine call_eq rfl (by repeat' (first | trivial | refine And.intro ?_ ?_ | (show 0 + _ ≤ List.length _; simp))) ALeL.refl (hvb) rfl ?_) | fail)
      exact ⟨ALe.tup ⟨ALe.pv PLe.nil, ALe.refl, trivial⟩⟩
  · obtain ⟨e1, e2⟩ := df1 (b := b) h0
    rw [e1, e2]
    generalize validE a w = E at *
    refine acall_of tok mixed 63 rfl (fn := Tryz.f11) (c := Tryz.f11.body.getD .skip) (by kernel_rfl) (by kernel_rfl) (by kernel_rfl) rfl 0 rfl ?_
    repeat' (first | refine o1 ?_ | refine o2 ?_ | refine k1 ?_ | refine k2 ?_ | refine k3 ?_ | refine k4 ?_ | refine k6 ?_ | refine k7 ?_ | refine k8 ?_ | refine And.intro ?_ ?_ | exact trivial | refine o3 ?_ | refine o4 ?_ | refine o5 ?_ | refine o6 ?_ | refine k5 ?_ | (intro h; first | exact Bool.noConfusion h | exact nz _ h | exact nl h | (simp at h; done) | (simp at h; first | (exfalso; omega) | skip) | skip) | (change retOk _ _ _ _; refine ret_pure rfl trivial ?_) | exact (rfl : allOne _ = true) | (refine (?_ : (0 : Int) ≤ _); omega) | (refine (?_ : _ ≠ _); omega) | (refine (?_ : srcLen _ = rowsLen _); rfl) | exact Nat.le_of_ble_eq_true rfl | exact (by kernel_rfl : drawOk _ _ = true) | refine eqv_len_map ?_ | refine eqv_size ?_ | refine eqv_put (eqv_ck ?_) | refine eqv_zero ?_ | refine eqv_wrap (by omega) (by omega) ?_ | refine eqv_u64 (by omega) (by omega) ?_ | refine eqv_u8 (by omega) (by omega) ?_ | refine eqv_to _ (set_map rfl rfl) ?_ | refine ⟨_, _, (by first | rfl | assumption), at_map (by assumption), ?_⟩ | refine ⟨_, _, (by first | rfl | assumption), (by assumption), ?_⟩ | refine ⟨_, at_map (by assumption), (by decide), ?_⟩ | refine ⟨_, at_map (by assumption), ?_⟩ | (refine (?_ : _ ≤ 140737488355328); simp [rowsLen] <;> omega) | (refine (?_ : _ ≤ 9223372036854775807); simp [rowsLen] <;> omega) | (refine (?_ : _ = rowsLen _); simp [rowsLen] <;> omega) | refine eqv_to _ (app_row rfl) (eqv_to _ app_len ?_) | refine eqv_to _ (app_first rfl) (eqv_to 1 rfl ?_) | refine idx_sl (at_map (by assumption)) (by omega) ?_ | refine idx_ms _ (by first | rfl | assumption) (by first | assumption | omega) ?_ | (change vcFun _ _ _ _ _; refine call_eq rfl (by repeat' (first | trivial | refine And.intro ?_ ?_ | (show 0 + _ ≤ List.length _; simp))) ALeL.refl (hva) rfl ?_) | (change vcFun _ _ _ _ _; refine call_eq rfl (by repeat' (first | trivial | refine And.intro ?_ ?_ | (show 0 + _ ≤ List.length _; simp))) ALeL.refl (hvb) rfl ?_) | fail)
    exact ⟨ALe.tup ⟨ALe.pv PLe.nil, ALe.refl, trivial⟩⟩
theorem c_rdiff (a b : List Sess) (w : Int) (ha : a.length ≤ 100000000) (hb : b.length ≤ 100000000) : PCall Tryz.prog 11 [.pv (encSess a), .pv (encSess b), vint .i64 w] (fun r => r = .tup [.pv (encChgs (diffV a b w)), vint .i64 (diffE a b w)]) := (c_rdiff0 a b w ha hb).weak fun r k => ⟨_, k.le, rfl⟩
end Go.Proofs.YtbcacaodfpgflaaGreatDoor.Cw

/-
  Contracts: Apply on both sides.
-/
namespace Go.Proofs.YtbcacaodfpgflaaGreatDoor.Cw
open Go Go.Cw Go.Proofs
set_option linter.unusedVariables false
set_option maxRecDepth 100000
set_option maxHeartbeats 8000000

theorem c_find (c : List Chg) (k : Str) (hn : c.length ≤ 1000000000) : PCall Tryz.prog 35 [.pv (encChgs c), .pv (es k)] (fun r => r = findA (findC c k)) := (c_find0 c k hn).weak fun r k => ⟨_, k.le, rfl⟩
theorem call_find {c : List Chg} {k : Str} {o : Option Chg} {H : Heap} {K : AV → Heap → Prop} (hn : c.length ≤ 1000000000) (ho : findC c k = o) (hK : K (findA o) H) : vcFun Tryz.prog 35 [.pv (encChgs c), .pv (es k)] H K := by
  subst ho
  refine call_frz (as0 := [.pv (encChgs c), .pv (es k)]) rfl (by repeat' (first | trivial | refine And.intro ?_ ?_ | (show 0 + _ ≤ List.length _; simp))) ALeL.refl (c_find c k hn) ?_
  rintro r rfl
  exact hK
theorem call_clsA {c : List Chg} {l : List Sess} {K : AV → Heap → Prop} (hc : c.length ≤ 1000) (hl : l.length ≤ 96) (hK : K (.pv (.sl 1 ((clsOf (c.map Chg.cls ++ l.map Sess.cls)).map strRow))) [some ⟨22, 1, true, .p [[encSess l]]⟩]) : vcFun Tryz.prog 28 [.pv (encChgs c), .ms 0 1 0 1] [some ⟨22, 1, false, .p [[encSess l]]⟩] K := by
  have h := c_classes c [l] hc (by simp; omega) (Nat.le_of_ble_eq_true rfl)
  have e : [l].flatten = l := by simp
  rw [e] at h
  refine call_frz (as0 := [.pv (encChgs c), .pv (encLs [l])]) rfl ?_ ALeL.refl h ?_
  · repeat' (first | exact trivial | refine And.intro ?_ ?_ | (show 0 + 1 ≤ 1; omega))
  · rintro r rfl
    exact hK
theorem leq_c {V : List Sess} {E E' : Int} (hv : V = []) (he : E' = E) : Leq (.tup [.pv (.val (.slice none 0 0)), .pv (.val (.int .i64 E))]) (.tup [.pv (encSess V), vint .i64 E']) := leq_nil hv he
theorem clsA_len {c : List Chg} {l : List Sess} : (clsOf (c.map Chg.cls ++ l.map Sess.cls)).length ≤ c.length + l.length := by
  have := clsOf_len (L := c.map Chg.cls ++ l.map Sess.cls)
  rwa [List.length_append, List.length_map, List.length_map] at this
theorem flat_snoc {l : List Sess} {c : List Chg} {K : List Str} {i : Nat} {k : Str} (hk : K[i]? = some k) : ((K.take (i + 1)).flatMap (appG l c)).map Sess.row = ((K.take i).flatMap (appG l c)).map Sess.row ++ (appG l c k).map Sess.row := by
  rw [take_snoc hk, List.flatMap_append, List.map_append]; simp
theorem c_apply0 (l : List Sess) (c : List Chg) (w : Int) (hl : l.length ≤ 100000000) (hc : c.length ≤ 400) (hca : ∀ x ∈ c, x.bef.length ≤ 2000000 ∧ x.aft.length ≤ 2000000) : PCall Tryz.prog 13 [.pv (encSess l), .pv (encChgs c), vint .i64 w] (fun r => Leq r (.tup [.pv (encSess (applV l c w)), vint .i64 (applE l c w)])) := by
  have hva := c_valid l w (by omega)
  by_cases h0 : validE l w = 0
  · rw [h0] at hva
    have hl96 := (valid_parts h0).2.1
    have ho := c_ord34 c (fun x hx => ⟨by have := (hca x hx).1; omega, by have := (hca x hx).2; omega⟩) (by omega)
    by_cases hord : orderedP c
    · rw [pB_t hord] at ho
      refine acall_of tok mixed 84 rfl (fn := Tryz.f13) (c := Tryz.f13.body.getD .skip) (by kernel_rfl) (by kernel_rfl) (by kernel_rfl) rfl 0 rfl ?_
      repeat' (first | refine o1 ?_ | refine o2 ?_ | refine k1 ?_ | refine k2 ?_ | refine k3 ?_ | refine k4 ?_ | refine k6 ?_ | refine k7 ?_ | refine k8 ?_ | refine And.intro ?_ ?_ | exact trivial | refine o3 ?_ | refine o4 ?_ | refine o5 ?_ | refine o6 ?_ | refine k5 ?_ | (intro h; first | exact Bool.noConfusion h | exact nz _ h | exact nl h | (simp at h; done) | (simp at h; first | (exfalso; omega) | skip) | skip) | (change retOk _ _ _ _; refine ret_pure rfl trivial ?_) | exact (rfl : allOne _ = true) | (refine (?_ : (0 : Int) ≤ _); omega) | (refine (?_ : _ ≠ _); omega) | (refine (?_ : srcLen _ = rowsLen _); rfl) | exact Nat.le_of_ble_eq_true rfl | exact (by kernel_rfl : drawOk _ _ = true) | refine eqv_len_map ?_ | refine eqv_size ?_ | refine eqv_put (eqv_ck ?_) | refine eqv_zero ?_ | refine eqv_wrap (by omega) (by omega) ?_ | refine eqv_u64 (by omega) (by omega) ?_ | refine eqv_u8 (by omega) (by omega) ?_ | refine eqv_to _ (set_map rfl rfl) ?_ | refine ⟨_, _, (by first | rfl | assumption), at_map (by assumption), ?_⟩ | refine ⟨_, _, (by first | rfl | assumption), (by assumption), ?_⟩ | refine ⟨_, at_map (by assumption), (by decide), ?_⟩ | refine ⟨_, at_map (by assumption), ?_⟩ | (refine (?_ : _ ≤ 140737488355328); simp [rowsLen] <;> omega) | (refine (?_ : _ ≤ 9223372036854775807); simp [rowsLen] <;> omega) | (refine (?_ : _ = rowsLen _); simp [rowsLen] <;> omega) | refine eqv_to _ (app_row rfl) (eqv_to _ app_len ?_) | refine eqv_to _ (app_first rfl) (eqv_to 1 rfl ?_) | refine idx_sl (at_map (by assumption)) (by omega) ?_ | refine idx_ms _ (by first | rfl | assumption) (by first | assumption | omega) ?_ | (change vcFun _ _ _ _ _; refine call_eq rfl (by repeat' (first | trivial | refine And.intro ?_ ?_ | (show 0 + _ ≤ List.length _; simp))) ALeL.refl (hva) rfl ?_) | (change vcFun _ _ _ _ _; refine call_eq rfl (by repeat' (first | trivial | refine And.intro ?_ ?_ | (show 0 + _ ≤ List.length _; simp))) ALeL.refl (ho) rfl ?_) | fail)
      refine loop_at (fun i : Nat => [(28, vint .i64 i)]) (fun _ => []) (fun i => i ≤ c.length ∧ ∀ j, j < i → appAt l c j = 0) (fun i => c.length - i) 0 ⟨Nat.zero_le _, fun j hj => by omega⟩ (by repeat' (first | exact trivial | exact rfl | exact ⟨_, rfl, ALe.refl⟩ | refine And.intro ?_ ?_)) (by repeat' (first | exact trivial | exact rfl | exact ⟨_, rfl, ALe.refl⟩ | refine And.intro ?_ ?_)) ?_
      intro i ⟨hi, hall⟩
      rcases Nat.lt_or_ge i c.length with hlt | hge
      · obtain ⟨x, hx⟩ := getE hlt
        obtain ⟨hb, ha⟩ := hca x (List.mem_of_getElem? hx)
        have hof := c_of l x.cls (by omega)
        have hofa := c_of x.aft x.cls (by omega)
        have hlo := ofC_leng (l := l) (c := x.cls)
        have hla := ofC_leng (l := x.aft) (c := x.cls)
        have heq := c_equal x.bef (ofC l x.cls) (by omega) (by omega)
        by_cases hba : x.bef = ofC l x.cls
        · rw [pB_t hba] at heq
          have a1 := fun hn => appAt_i hx hba hn
          have a2 := fun hn => appAt_0 hx hba hn
          generalize hm : ofC l x.cls = M at *
          generalize hm2 : ofC x.aft x.cls = M2 at *
          repeat' (first | refine o1 ?_ | refine o2 ?_ | refine k1 ?_ | refine k2 ?_ | refine k3 ?_ | refine k4 ?_ | refine k6 ?_ | refine k7 ?_ | refine k8 ?_ | refine And.intro ?_ ?_ | exact trivial | refine o3 ?_ | refine o4 ?_ | refine o5 ?_ | refine o6 ?_ | refine k5 ?_ | (intro h; first | exact Bool.noConfusion h | exact nz _ h | exact nl h | (simp at h; done) | (simp at h; first | (exfalso; omega) | skip) | skip) | (change retOk _ _ _ _; refine ret_pure rfl trivial ?_) | exact (rfl : allOne _ = true) | (refine (?_ : (0 : Int) ≤ _); omega) | (refine (?_ : _ ≠ _); omega) | (refine (?_ : srcLen _ = rowsLen _); rfl) | exact Nat.le_of_ble_eq_true rfl | exact (by kernel_rfl : drawOk _ _ = true) | refine eqv_len_map ?_ | refine eqv_size ?_ | refine eqv_put (eqv_ck ?_) | refine eqv_zero ?_ | refine eqv_wrap (by omega) (by omega) ?_ | refine eqv_u64 (by omega) (by omega) ?_ | refine eqv_u8 (by omega) (by omega) ?_ | refine eqv_to _ (set_map rfl rfl) ?_ | refine ⟨_, _, (by first | rfl | assumption), at_map (by assumption), ?_⟩ | refine ⟨_, _, (by first | rfl | assumption), (by assumption), ?_⟩ | refine ⟨_, at_map (by assumption), (by decide), ?_⟩ | refine ⟨_, at_map (by assumption), ?_⟩ | (refine (?_ : _ ≤ 140737488355328); simp [rowsLen] <;> omega) | (refine (?_ : _ ≤ 9223372036854775807); simp [rowsLen] <;> omega) | (refine (?_ : _ = rowsLen _); simp [rowsLen] <;> omega) | refine eqv_to _ (app_row rfl) (eqv_to _ app_len ?_) | refine eqv_to _ (app_first rfl) (eqv_to 1 rfl ?_) | refine idx_sl (at_map (by assumption)) (by omega) ?_ | refine idx_ms _ (by first | rfl | assumption) (by first | assumption | omega) ?_ | (change vcFunD _ _ _ _ _; refine callD_eq rfl (by repeat' (first | trivial | refine And.intro ?_ ?_ | (show 0 + _ ≤ List.length _; simp))) ALeL.refl (hof) rfl ?_) | (change vcFunD _ _ _ _ _; refine callD_eq rfl (by repeat' (first | trivial | refine And.intro ?_ ?_ | (show 0 + _ ≤ List.length _; simp))) ALeL.refl (heq) rfl ?_) | (change vcFunD _ _ _ _ _; refine callD_eq rfl (by repeat' (first | trivial | refine And.intro ?_ ?_ | (show 0 + _ ≤ List.length _; simp))) ALeL.refl (hofa) rfl ?_) | fail)
          · have g := a1 (fun e => by omega)
            obtain ⟨e1, e2⟩ := ap3 (w := w) h0 hord hall hlt (by rw [g]; decide)
            rw [g] at e1
            exact leq_c e2 e1
          · exact ⟨i + 1, ⟨by omega, all_lt_succ hall (a2 (by omega))⟩, by omega, back [] rfl rfl trivial (by repeat' (first | exact trivial | exact rfl | exact ⟨_, rfl, ALe.refl⟩ | refine And.intro ?_ ?_))⟩
        · rw [pB_f hba] at heq
          obtain ⟨e1, e2⟩ := ap3 (w := w) h0 hord hall hlt (by rw [appAt_s hx hba]; decide)
          rw [appAt_s hx hba] at e1
          generalize hm : ofC l x.cls = M at *
          repeat' (first | refine o1 ?_ | refine o2 ?_ | refine k1 ?_ | refine k2 ?_ | refine k3 ?_ | refine k4 ?_ | refine k6 ?_ | refine k7 ?_ | refine k8 ?_ | refine And.intro ?_ ?_ | exact trivial | refine o3 ?_ | refine o4 ?_ | refine o5 ?_ | refine o6 ?_ | refine k5 ?_ | (intro h; first | exact Bool.noConfusion h | exact nz _ h | exact nl h | (simp at h; done) | (simp at h; first | (exfalso; omega) | skip) | skip) | (change retOk _ _ _ _; refine ret_pure rfl trivial ?_) | exact (rfl : allOne _ = true) | (refine (?_ : (0 : Int) ≤ _); omega) | (refine (?_ : _ ≠ _); omega) | (refine (?_ : srcLen _ = rowsLen _); rfl) | exact Nat.le_of_ble_eq_true rfl | exact (by kernel_rfl : drawOk _ _ = true) | refine eqv_len_map ?_ | refine eqv_size ?_ | refine eqv_put (eqv_ck ?_) | refine eqv_zero ?_ | refine eqv_wrap (by omega) (by omega) ?_ | refine eqv_u64 (by omega) (by omega) ?_ | refine eqv_u8 (by omega) (by omega) ?_ | refine eqv_to _ (set_map rfl rfl) ?_ | refine ⟨_, _, (by first | rfl | assumption), at_map (by assumption), ?_⟩ | refine ⟨_, _, (by first | rfl | assumption), (by assumption), ?_⟩ | refine ⟨_, at_map (by assumption), (by decide), ?_⟩ | refine ⟨_, at_map (by assumption), ?_⟩ | (refine (?_ : _ ≤ 140737488355328); simp [rowsLen] <;> omega) | (refine (?_ : _ ≤ 9223372036854775807); simp [rowsLen] <;> omega) | (refine (?_ : _ = rowsLen _); simp [rowsLen] <;> omega) | refine eqv_to _ (app_row rfl) (eqv_to _ app_len ?_) | refine eqv_to _ (app_first rfl) (eqv_to 1 rfl ?_) | refine idx_sl (at_map (by assumption)) (by omega) ?_ | refine idx_ms _ (by first | rfl | assumption) (by first | assumption | omega) ?_ | (change vcFunD _ _ _ _ _; refine callD_eq rfl (by repeat' (first | trivial | refine And.intro ?_ ?_ | (show 0 + _ ≤ List.length _; simp))) ALeL.refl (hof) rfl ?_) | (change vcFunD _ _ _ _ _; refine callD_eq rfl (by repeat' (first | trivial | refine And.intro ?_ ?_ | (show 0 + _ ≤ List.length _; simp))) ALeL.refl (heq) rfl ?_) | fail)
          exact leq_c e2 e1
      · have hall : ∀ j, j < c.length → appAt l c j = 0 := fun j hj => hall j (by omega)
        obtain ⟨e1, e2, e3⟩ := ap4 (w := w) h0 hord hall
        have hKl := clsA_len (c := c) (l := l)
        have hout := flat_len (K := clsOf (c.map Chg.cls ++ l.map Sess.cls)) (M := 2000000) fun k _ => appG_len (l := l) (c := c) (fun x hx => (hca x hx).2) (by omega) k
        have hvo := c_valid (appL l c) w (by unfold appL; omega)
        repeat' (first | ((change vcFun _ _ _ _ _; refine call_clsA (by omega) hl96 ?_)) | refine o1 ?_ | refine o2 ?_ | refine k1 ?_ | refine k2 ?_ | refine k3 ?_ | refine k4 ?_ | refine k6 ?_ | refine k7 ?_ | refine k8 ?_ | refine And.intro ?_ ?_ | exact trivial | refine o3 ?_ | refine o4 ?_ | refine o5 ?_ | refine o6 ?_ | refine k5 ?_ | (intro h; first | exact Bool.noConfusion h | exact nz _ h | exact nl h | (simp at h; done) | (simp at h; first | (exfalso; omega) | skip) | skip) | (change retOk _ _ _ _; refine ret_pure rfl trivial ?_) | exact (rfl : allOne _ = true) | (refine (?_ : (0 : Int) ≤ _); omega) | (refine (?_ : _ ≠ _); omega) | (refine (?_ : srcLen _ = rowsLen _); rfl) | exact Nat.le_of_ble_eq_true rfl | exact (by kernel_rfl : drawOk _ _ = true) | refine eqv_len_map ?_ | refine eqv_size ?_ | refine eqv_put (eqv_ck ?_) | refine eqv_zero ?_ | refine eqv_wrap (by omega) (by omega) ?_ | refine eqv_u64 (by omega) (by omega) ?_ | refine eqv_u8 (by omega) (by omega) ?_ | refine eqv_to _ (set_map rfl rfl) ?_ | refine ⟨_, _, (by first | rfl | assumption), at_map (by assumption), ?_⟩ | refine ⟨_, _, (by first | rfl | assumption), (by assumption), ?_⟩ | refine ⟨_, at_map (by assumption), (by decide), ?_⟩ | refine ⟨_, at_map (by assumption), ?_⟩ | (refine (?_ : _ ≤ 140737488355328); simp [rowsLen] <;> omega) | (refine (?_ : _ ≤ 9223372036854775807); simp [rowsLen] <;> omega) | (refine (?_ : _ = rowsLen _); simp [rowsLen] <;> omega) | refine eqv_to _ (app_row rfl) (eqv_to _ app_len ?_) | refine eqv_to _ (app_first rfl) (eqv_to 1 rfl ?_) | refine idx_sl (at_map (by assumption)) (by omega) ?_ | refine idx_ms _ (by first | rfl | assumption) (by first | assumption | omega) ?_ | fail)
        unfold appL at *
        generalize clsOf (c.map Chg.cls ++ l.map Sess.cls) = K at *
        refine loop_for (fun i : Nat => [(0, .pv (encSess l)), (1, .pv (encChgs c)), (2, vint .i64 w), (11, slP 0 6 (((K.take i).flatMap (appG l c)).map Sess.row)), (54, .pv (.sl 1 (K.map strRow))), (55, vint .i64 K.length), (56, vint .i64 i)]) (fun i => [obP 51 6 (((K.take i).flatMap (appG l c)).map Sess.row)]) (fun i => i ≤ K.length) (fun i => K.length - i) 0 (Nat.zero_le _) ?_ ?_
        · exact back [1] rfl rfl (by repeat' (first | exact trivial | exact rfl | exact ren_get rfl | refine kept_ob rfl ?_ | exact ⟨_, rfl, ALe.refl⟩ | refine And.intro ?_ ?_)) (by repeat' (first | exact trivial | exact rfl | exact ren_get rfl | refine kept_ob rfl ?_ | exact ⟨_, rfl, ALe.refl⟩ | refine And.intro ?_ ?_))
        intro i hi
        rcases Nat.lt_or_ge i K.length with hlt | hge
        · obtain ⟨k, hk⟩ := getE hlt
          have hsn := flat_snoc (l := l) (c := c) hk
          have hpre : ((K.take (i + 1)).flatMap (appG l c)).length ≤ 1000000000 := by
            have h1 := flat_len (K := K.take (i + 1)) (M := 2000000) fun k _ => appG_len (l := l) (c := c) (fun x hx => (hca x hx).2) (by omega) k
            have h2 := List.length_take_le (i + 1) K
            have h3 : (K.take (i + 1)).length * 2000000 ≤ 496 * 2000000 := Nat.mul_le_mul_right _ (by omega)
            omega
          have hln := congrArg List.length hsn
          rw [List.length_append, List.length_map] at hln
          rcases hf : findC c k with _ | x
          · rw [appG_none hf] at hsn hln
            generalize ((K.take i).flatMap (appG l c)).map Sess.row = R at *
            repeat' (first | (refine fv_sl ?_) | (refine fh_ob ?_) | (refine ⟨_, (by rw [List.getElem?_map, hk]; rfl : (K.map strRow)[i]? = some [es k]), ?_⟩) | (refine ⟨i, rfl, hlt, ?_⟩) | ((change vcFun _ _ _ _ _; refine call_find (by omega) hf ?_)) | ((change vcFun _ _ _ _ _; refine call_of (by omega) ?_)) | ((refine o_appL (id := 0) (rows := R) rfl rfl rfl rfl rfl rfl rfl rfl rfl rfl rfl (by omega) (by omega) ?_)) | refine o1 ?_ | refine o2 ?_ | refine k1 ?_ | refine k2 ?_ | refine k3 ?_ | refine k4 ?_ | refine k6 ?_ | refine k7 ?_ | refine k8 ?_ | refine And.intro ?_ ?_ | exact trivial | refine o3 ?_ | refine o4 ?_ | refine o5 ?_ | refine o6 ?_ | refine k5 ?_ | (intro h; first | exact Bool.noConfusion h | exact nz _ h | exact nl h | (simp at h; done) | (simp at h; first | (exfalso; omega) | skip) | skip) | (change retOk _ _ _ _; refine ret_pure rfl trivial ?_) | exact (rfl : allOne _ = true) | (refine (?_ : (0 : Int) ≤ _); omega) | (refine (?_ : _ ≠ _); omega) | (refine (?_ : srcLen _ = rowsLen _); rfl) | exact Nat.le_of_ble_eq_true rfl | exact (by kernel_rfl : drawOk _ _ = true) | refine eqv_len_map ?_ | refine eqv_size ?_ | refine eqv_put (eqv_ck ?_) | refine eqv_zero ?_ | refine eqv_wrap (by omega) (by omega) ?_ | refine eqv_u64 (by omega) (by omega) ?_ | refine eqv_u8 (by omega) (by omega) ?_ | refine eqv_to _ (set_map rfl rfl) ?_ | refine ⟨_, _, (by first | rfl | assumption), at_map (by assumption), ?_⟩ | refine ⟨_, _, (by first | rfl | assumption), (by assumption), ?_⟩ | refine ⟨_, at_map (by assumption), (by decide), ?_⟩ | refine ⟨_, at_map (by assumption), ?_⟩ | (refine (?_ : _ ≤ 140737488355328); simp [rowsLen] <;> omega) | (refine (?_ : _ ≤ 9223372036854775807); simp [rowsLen] <;> omega) | (refine (?_ : _ = rowsLen _); simp [rowsLen] <;> omega) | refine eqv_to _ (app_row rfl) (eqv_to _ app_len ?_) | refine eqv_to _ (app_first rfl) (eqv_to 1 rfl ?_) | refine idx_sl (at_map (by assumption)) (by omega) ?_ | refine idx_ms _ (by first | rfl | assumption) (by first | assumption | omega) ?_ | fail)
            refine ⟨i + 1, hlt, by omega, ?_⟩
            rw [hsn]
            exact back [2] rfl rfl (by repeat' (first | exact trivial | exact rfl | exact ren_get rfl | refine kept_ob rfl ?_ | exact ⟨_, rfl, ALe.refl⟩ | refine And.intro ?_ ?_)) (by repeat' (first | exact trivial | exact rfl | exact ren_get rfl | refine kept_ob rfl ?_ | exact ⟨_, rfl, ALe.refl⟩ | (refine slot_eq rfl (congrArg (vint .i64) ?_); omega) | refine And.intro ?_ ?_))
          · rw [appG_some hf] at hsn hln
            generalize ((K.take i).flatMap (appG l c)).map Sess.row = R at *
            repeat' (first | (refine fv_sl ?_) | (refine fh_ob ?_) | (refine ⟨_, (by rw [List.getElem?_map, hk]; rfl : (K.map strRow)[i]? = some [es k]), ?_⟩) | (refine ⟨i, rfl, hlt, ?_⟩) | ((change vcFun _ _ _ _ _; refine call_find (by omega) hf ?_)) | ((refine o_appL (id := 0) (rows := R) rfl rfl rfl rfl rfl rfl rfl rfl rfl rfl rfl (by omega) (by omega) ?_)) | refine o1 ?_ | refine o2 ?_ | refine k1 ?_ | refine k2 ?_ | refine k3 ?_ | refine k4 ?_ | refine k6 ?_ | refine k7 ?_ | refine k8 ?_ | refine And.intro ?_ ?_ | exact trivial | refine o3 ?_ | refine o4 ?_ | refine o5 ?_ | refine o6 ?_ | refine k5 ?_ | (intro h; first | exact Bool.noConfusion h | exact nz _ h | exact nl h | (simp at h; done) | (simp at h; first | (exfalso; omega) | skip) | skip) | (change retOk _ _ _ _; refine ret_pure rfl trivial ?_) | exact (rfl : allOne _ = true) | (refine (?_ : (0 : Int) ≤ _); omega) | (refine (?_ : _ ≠ _); omega) | (refine (?_ : srcLen _ = rowsLen _); rfl) | exact Nat.le_of_ble_eq_true rfl | exact (by kernel_rfl : drawOk _ _ = true) | refine eqv_len_map ?_ | refine eqv_size ?_ | refine eqv_put (eqv_ck ?_) | refine eqv_zero ?_ | refine eqv_wrap (by omega) (by omega) ?_ | refine eqv_u64 (by omega) (by omega) ?_ | refine eqv_u8 (by omega) (by omega) ?_ | refine eqv_to _ (set_map rfl rfl) ?_ | refine ⟨_, _, (by first | rfl | assumption), at_map (by assumption), ?_⟩ | refine ⟨_, _, (by first | rfl | assumption), (by assumption), ?_⟩ | refine ⟨_, at_map (by assumption), (by decide), ?_⟩ | refine ⟨_, at_map (by assumption), ?_⟩ | (refine (?_ : _ ≤ 140737488355328); simp [rowsLen] <;> omega) | (refine (?_ : _ ≤ 9223372036854775807); simp [rowsLen] <;> omega) | (refine (?_ : _ = rowsLen _); simp [rowsLen] <;> omega) | refine eqv_to _ (app_row rfl) (eqv_to _ app_len ?_) | refine eqv_to _ (app_first rfl) (eqv_to 1 rfl ?_) | refine idx_sl (at_map (by assumption)) (by omega) ?_ | refine idx_ms _ (by first | rfl | assumption) (by first | assumption | omega) ?_ | fail)
            refine ⟨i + 1, hlt, by omega, ?_⟩
            rw [hsn]
            exact back [2] rfl rfl (by repeat' (first | exact trivial | exact rfl | exact ren_get rfl | refine kept_ob rfl ?_ | exact ⟨_, rfl, ALe.refl⟩ | refine And.intro ?_ ?_)) (by repeat' (first | exact trivial | exact rfl | exact ren_get rfl | refine kept_ob rfl ?_ | exact ⟨_, rfl, ALe.refl⟩ | (refine slot_eq rfl (congrArg (vint .i64) ?_); omega) | refine And.intro ?_ ?_))
        · obtain rfl : i = K.length := by omega
          rw [List.take_length]
          by_cases hz : validE (K.flatMap (appG l c)) w = 0
          · rw [hz] at hvo
            rw [e1, e2 hz, hz]
            generalize K.flatMap (appG l c) = X at *
            repeat' (first | (refine fv_sl ?_) | (refine fh_ob ?_) | ((change vcFun _ _ _ _ _; refine call_sl2 (id := 0) rfl rfl trivial hvo rfl ?_)) | refine o1 ?_ | refine o2 ?_ | refine k1 ?_ | refine k2 ?_ | refine k3 ?_ | refine k4 ?_ | refine k6 ?_ | refine k7 ?_ | refine k8 ?_ | refine And.intro ?_ ?_ | exact trivial | refine o3 ?_ | refine o4 ?_ | refine o5 ?_ | refine o6 ?_ | refine k5 ?_ | (intro h; first | exact Bool.noConfusion h | exact nz _ h | exact nl h | (simp at h; done) | (simp at h; first | (exfalso; omega) | skip) | skip) | (change retOk _ _ _ _; refine ret_pure rfl trivial ?_) | exact (rfl : allOne _ = true) | (refine (?_ : (0 : Int) ≤ _); omega) | (refine (?_ : _ ≠ _); omega) | (refine (?_ : srcLen _ = rowsLen _); rfl) | exact Nat.le_of_ble_eq_true rfl | exact (by kernel_rfl : drawOk _ _ = true) | refine eqv_len_map ?_ | refine eqv_size ?_ | refine eqv_put (eqv_ck ?_) | refine eqv_zero ?_ | refine eqv_wrap (by omega) (by omega) ?_ | refine eqv_u64 (by omega) (by omega) ?_ | refine eqv_u8 (by omega) (by omega) ?_ | refine eqv_to _ (set_map rfl rfl) ?_ | refine ⟨_, _, (by first | rfl | assumption), at_map (by assumption), ?_⟩ | refine ⟨_, _, (by first | rfl | assumption), (by assumption), ?_⟩ | refine ⟨_, at_map (by assumption), (by decide), ?_⟩ | refine ⟨_, at_map (by assumption), ?_⟩ | (refine (?_ : _ ≤ 140737488355328); simp [rowsLen] <;> omega) | (refine (?_ : _ ≤ 9223372036854775807); simp [rowsLen] <;> omega) | (refine (?_ : _ = rowsLen _); simp [rowsLen] <;> omega) | refine eqv_to _ (app_row rfl) (eqv_to _ app_len ?_) | refine eqv_to _ (app_first rfl) (eqv_to 1 rfl ?_) | refine idx_sl (at_map (by assumption)) (by omega) ?_ | refine idx_ms _ (by first | rfl | assumption) (by first | assumption | omega) ?_ | fail)
            exact ret_sl2 (id := 0) (ty := 51) rfl rfl
          · have e4 := e3 hz
            clear e3 e2
            generalize K.flatMap (appG l c) = X at *
            generalize validE X w = E at *
            repeat' (first | (refine fv_sl ?_) | (refine fh_ob ?_) | ((change vcFun _ _ _ _ _; refine call_sl2 (id := 0) rfl rfl trivial hvo rfl ?_)) | refine o1 ?_ | refine o2 ?_ | refine k1 ?_ | refine k2 ?_ | refine k3 ?_ | refine k4 ?_ | refine k6 ?_ | refine k7 ?_ | refine k8 ?_ | refine And.intro ?_ ?_ | exact trivial | refine o3 ?_ | refine o4 ?_ | refine o5 ?_ | refine o6 ?_ | refine k5 ?_ | (intro h; first | exact Bool.noConfusion h | exact nz _ h | exact nl h | (simp at h; done) | (simp at h; first | (exfalso; omega) | skip) | skip) | (change retOk _ _ _ _; refine ret_pure rfl trivial ?_) | exact (rfl : allOne _ = true) | (refine (?_ : (0 : Int) ≤ _); omega) | (refine (?_ : _ ≠ _); omega) | (refine (?_ : srcLen _ = rowsLen _); rfl) | exact Nat.le_of_ble_eq_true rfl | exact (by kernel_rfl : drawOk _ _ = true) | refine eqv_len_map ?_ | refine eqv_size ?_ | refine eqv_put (eqv_ck ?_) | refine eqv_zero ?_ | refine eqv_wrap (by omega) (by omega) ?_ | refine eqv_u64 (by omega) (by omega) ?_ | refine eqv_u8 (by omega) (by omega) ?_ | refine eqv_to _ (set_map rfl rfl) ?_ | refine ⟨_, _, (by first | rfl | assumption), at_map (by assumption), ?_⟩ | refine ⟨_, _, (by first | rfl | assumption), (by assumption), ?_⟩ | refine ⟨_, at_map (by assumption), (by decide), ?_⟩ | refine ⟨_, at_map (by assumption), ?_⟩ | (refine (?_ : _ ≤ 140737488355328); simp [rowsLen] <;> omega) | (refine (?_ : _ ≤ 9223372036854775807); simp [rowsLen] <;> omega) | (refine (?_ : _ = rowsLen _); simp [rowsLen] <;> omega) | refine eqv_to _ (app_row rfl) (eqv_to _ app_len ?_) | refine eqv_to _ (app_first rfl) (eqv_to 1 rfl ?_) | refine idx_sl (at_map (by assumption)) (by omega) ?_ | refine idx_ms _ (by first | rfl | assumption) (by first | assumption | omega) ?_ | fail)
            exact leq_c e4 e1
    · rw [pB_f hord] at ho
      obtain ⟨e1, e2⟩ := ap2 (w := w) h0 hord
      refine acall_of tok mixed 84 rfl (fn := Tryz.f13) (c := Tryz.f13.body.getD .skip) (by kernel_rfl) (by kernel_rfl) (by kernel_rfl) rfl 0 rfl ?_
      repeat' (first | refine o1 ?_ | refine o2 ?_ | refine k1 ?_ | refine k2 ?_ | refine k3 ?_ | refine k4 ?_ | refine k6 ?_ | refine k7 ?_ | refine k8 ?_ | refine And.intro ?_ ?_ | exact trivial | refine o3 ?_ | refine o4 ?_ | refine o5 ?_ | refine o6 ?_ | refine k5 ?_ | (intro h; first | exact Bool.noConfusion h | exact nz _ h | exact nl h | (simp at h; done) | (simp at h; first | (exfalso; omega) | skip) | skip) | (change retOk _ _ _ _; refine ret_pure rfl trivial ?_) | exact (rfl : allOne _ = true) | (refine (?_ : (0 : Int) ≤ _); omega) | (refine (?_ : _ ≠ _); omega) | (refine (?_ : srcLen _ = rowsLen _); rfl) | exact Nat.le_of_ble_eq_true rfl | exact (by kernel_rfl : drawOk _ _ = true) | refine eqv_len_map ?_ | refine eqv_size ?_ | refine eqv_put (eqv_ck ?_) | refine eqv_zero ?_ | refine eqv_wrap (by omega) (by omega) ?_ | refine eqv_u64 (by omega) (by omega) ?_ | refine eqv_u8 (by omega) (by omega) ?_ | refine eqv_to _ (set_map rfl rfl) ?_ | refine ⟨_, _, (by first | rfl | assumption), at_map (by assumption), ?_⟩ | refine ⟨_, _, (by first | rfl | assumption), (by assumption), ?_⟩ | refine ⟨_, at_map (by assumption), (by decide), ?_⟩ | refine ⟨_, at_map (by assumption), ?_⟩ | (refine (?_ : _ ≤ 140737488355328); simp [rowsLen] <;> omega) | (refine (?_ : _ ≤ 9223372036854775807); simp [rowsLen] <;> omega) | (refine (?_ : _ = rowsLen _); simp [rowsLen] <;> omega) | refine eqv_to _ (app_row rfl) (eqv_to _ app_len ?_) | refine eqv_to _ (app_first rfl) (eqv_to 1 rfl ?_) | refine idx_sl (at_map (by assumption)) (by omega) ?_ | refine idx_ms _ (by first | rfl | assumption) (by first | assumption | omega) ?_ | (change vcFun _ _ _ _ _; refine call_eq rfl (by repeat' (first | trivial | refine And.intro ?_ ?_ | (show 0 + _ ≤ List.length _; simp))) ALeL.refl (hva) rfl ?_) | (change vcFun _ _ _ _ _; refine call_eq rfl (by repeat' (first | trivial | refine And.intro ?_ ?_ | (show 0 + _ ≤ List.length _; simp))) ALeL.refl (ho) rfl ?_) | fail)
      exact leq_c e2 e1
  · obtain ⟨e1, e2⟩ := ap1 (c := c) h0
    generalize validE l w = E at *
    refine acall_of tok mixed 84 rfl (fn := Tryz.f13) (c := Tryz.f13.body.getD .skip) (by kernel_rfl) (by kernel_rfl) (by kernel_rfl) rfl 0 rfl ?_
    repeat' (first | refine o1 ?_ | refine o2 ?_ | refine k1 ?_ | refine k2 ?_ | refine k3 ?_ | refine k4 ?_ | refine k6 ?_ | refine k7 ?_ | refine k8 ?_ | refine And.intro ?_ ?_ | exact trivial | refine o3 ?_ | refine o4 ?_ | refine o5 ?_ | refine o6 ?_ | refine k5 ?_ | (intro h; first | exact Bool.noConfusion h | exact nz _ h | exact nl h | (simp at h; done) | (simp at h; first | (exfalso; omega) | skip) | skip) | (change retOk _ _ _ _; refine ret_pure rfl trivial ?_) | exact (rfl : allOne _ = true) | (refine (?_ : (0 : Int) ≤ _); omega) | (refine (?_ : _ ≠ _); omega) | (refine (?_ : srcLen _ = rowsLen _); rfl) | exact Nat.le_of_ble_eq_true rfl | exact (by kernel_rfl : drawOk _ _ = true) | refine eqv_len_map ?_ | refine eqv_size ?_ | refine eqv_put (eqv_ck ?_) | refine eqv_zero ?_ | refine eqv_wrap (by omega) (by omega) ?_ | refine eqv_u64 (by omega) (by omega) ?_ | refine eqv_u8 (by omega) (by omega) ?_ | refine eqv_to _ (set_map rfl rfl) ?_ | refine ⟨_, _, (by first | rfl | assumption), at_map (by assumption), ?_⟩ | refine ⟨_, _, (by first | rfl | assumption), (by assumption), ?_⟩ | refine ⟨_, at_map (by assumption), (by decide), ?_⟩ | refine ⟨_, at_map (by assumption), ?_⟩ | (refine (?_ : _ ≤ 140737488355328); simp [rowsLen] <;> omega) | (refine (?_ : _ ≤ 9223372036854775807); simp [rowsLen] <;> omega) | (refine (?_ : _ = rowsLen _); simp [rowsLen] <;> omega) | refine eqv_to _ (app_row rfl) (eqv_to _ app_len ?_) | refine eqv_to _ (app_first rfl) (eqv_to 1 rfl ?_) | refine idx_sl (at_map (by assumption)) (by omega) ?_ | refine idx_ms _ (by first | rfl | assumption) (by first | assumption | omega) ?_ | (change vcFun _ _ _ _ _; refine call_eq rfl (by repeat' (first | trivial | refine And.intro ?_ ?_ | (show 0 + _ ≤ List.length _; simp))) ALeL.refl (hva) rfl ?_) | fail)
    exact leq_c e2 e1
theorem c_apply (l : List Sess) (c : List Chg) (w : Int) (hl : l.length ≤ 100000000) (hc : c.length ≤ 400) (hca : ∀ x ∈ c, x.bef.length ≤ 2000000 ∧ x.aft.length ≤ 2000000) : PCall Tryz.prog 13 [.pv (encSess l), .pv (encChgs c), vint .i64 w] (fun r => r = .tup [.pv (encSess (applV l c w)), vint .i64 (applE l c w)]) := (c_apply0 l c w hl hc hca).weak fun r k => ⟨_, k.le, rfl⟩
end Go.Proofs.YtbcacaodfpgflaaGreatDoor.Cw

/-
  Contracts: Apply by the reference.
-/
namespace Go.Proofs.YtbcacaodfpgflaaGreatDoor.Cw
open Go Go.Cw Go.Proofs
set_option linter.unusedVariables false
set_option maxRecDepth 100000
set_option maxHeartbeats 8000000

section
variable {P : Program} {f : FuncId} {H : Heap} {K : AV → Heap → Prop} {id z ty : Nat} {rows : List (List PV)} {v : AV}
theorem call_slG {q : PV} (ho : H[id]? = some (obP ty z rows)) (hp : PCall P f [.pv q, .pv (.sl z rows)] (fun r => r = v)) (hK : ∀ H' : Heap, H'.length = H.length → K v H') : vcFun P f [.pv q, slP id z rows] H K := by
  obtain ⟨r0, h1, h2, h3⟩ := conv_sl ho
  have hle : ALeL [.pv q, r0] [.pv q, .pv (.sl z rows)] := ⟨ALe.refl, h3, trivial⟩
  refine call_frz (as0 := [.pv q, r0]) ?_ ?_ hle hp ?_
  · simp only [mapO, h1, conv_pv]
  · rw [andL_cons ok1_pv, andL_cons ok1_pv]
    exact ⟨trivial, h2, trivial⟩
  · rintro r rfl
    exact hK _ (app_length ..)
end
theorem flat_take_len {α β : Type} {f : α → List β} {K : List α} {i : Nat} : ((K.take i).flatMap f).length ≤ (K.flatMap f).length := by
  have : K.flatMap f = (K.take i).flatMap f ++ (K.drop i).flatMap f := by rw [← List.flatMap_append, List.take_append_drop]
  rw [this, List.length_append]; omega
theorem aft_snoc {c : List Chg} {i : Nat} {x : Chg} (hx : c[i]? = some x) : ((c.take (i + 1)).flatMap Chg.aft).map Sess.row = ((c.take i).flatMap Chg.aft).map Sess.row ++ x.aft.map Sess.row := by
  rw [take_snoc hx, List.flatMap_append, List.map_append]; simp
theorem c_rapply0 (l : List Sess) (c : List Chg) (w : Int) (hl : l.length ≤ 100000000) (hc : c.length ≤ 400) (hca : ∀ x ∈ c, x.bef.length ≤ 2000000 ∧ x.aft.length ≤ 2000000) : PCall Tryz.prog 14 [.pv (encSess l), .pv (encChgs c), vint .i64 w] (fun r => Leq r (.tup [.pv (encSess (applV l c w)), vint .i64 (applE l c w)])) := by
  have hva := c_rvalid l w (by omega)
  by_cases h0 : validE l w = 0
  · rw [h0] at hva
    have hl96 := (valid_parts h0).2.1
    have ho := c_rord34 c (fun x hx => ⟨by have := (hca x hx).1; omega, by have := (hca x hx).2; omega⟩) (by omega)
    by_cases hord : orderedP c
    · rw [pB_t hord] at ho
      refine acall_of tok mixed 125 rfl (fn := Tryz.f14) (c := Tryz.f14.body.getD .skip) (by kernel_rfl) (by kernel_rfl) (by kernel_rfl) rfl 0 rfl ?_
      repeat' (first | refine o1 ?_ | refine o2 ?_ | refine k1 ?_ | refine k2 ?_ | refine k3 ?_ | refine k4 ?_ | refine k6 ?_ | refine k7 ?_ | refine k8 ?_ | refine And.intro ?_ ?_ | exact trivial | refine o3 ?_ | refine o4 ?_ | refine o5 ?_ | refine o6 ?_ | refine k5 ?_ | (intro h; first | exact Bool.noConfusion h | exact nz _ h | exact nl h | (simp at h; done) | (simp at h; first | (exfalso; omega) | skip) | skip) | (change retOk _ _ _ _; refine ret_pure rfl trivial ?_) | exact (rfl : allOne _ = true) | (refine (?_ : (0 : Int) ≤ _); omega) | (refine (?_ : _ ≠ _); omega) | (refine (?_ : srcLen _ = rowsLen _); rfl) | exact Nat.le_of_ble_eq_true rfl | exact (by kernel_rfl : drawOk _ _ = true) | refine eqv_len_map ?_ | refine eqv_size ?_ | refine eqv_put (eqv_ck ?_) | refine eqv_zero ?_ | refine eqv_wrap (by omega) (by omega) ?_ | refine eqv_u64 (by omega) (by omega) ?_ | refine eqv_u8 (by omega) (by omega) ?_ | refine eqv_to _ (set_map rfl rfl) ?_ | refine ⟨_, _, (by first | rfl | assumption), at_map (by assumption), ?_⟩ | refine ⟨_, _, (by first | rfl | assumption), (by assumption), ?_⟩ | refine ⟨_, at_map (by assumption), (by decide), ?_⟩ | refine ⟨_, at_map (by assumption), ?_⟩ | (refine (?_ : _ ≤ 140737488355328); simp [rowsLen] <;> omega) | (refine (?_ : _ ≤ 9223372036854775807); simp [rowsLen] <;> omega) | (refine (?_ : _ = rowsLen _); simp [rowsLen] <;> omega) | refine eqv_to _ (app_row rfl) (eqv_to _ app_len ?_) | refine eqv_to _ (app_first rfl) (eqv_to 1 rfl ?_) | refine idx_sl (at_map (by assumption)) (by omega) ?_ | refine idx_ms _ (by first | rfl | assumption) (by first | assumption | omega) ?_ | (change vcFun _ _ _ _ _; refine call_eq rfl (by repeat' (first | trivial | refine And.intro ?_ ?_ | (show 0 + _ ≤ List.length _; simp))) ALeL.refl (hva) rfl ?_) | (change vcFun _ _ _ _ _; refine call_eq rfl (by repeat' (first | trivial | refine And.intro ?_ ?_ | (show 0 + _ ≤ List.length _; simp))) ALeL.refl (ho) rfl ?_) | fail)
      refine loop_at (fun i : Nat => [(9, vint .i64 i)]) (fun _ => []) (fun i => i ≤ c.length ∧ ∀ j, j < i → appAt l c j = 0) (fun i => c.length - i) 0 ⟨Nat.zero_le _, fun j hj => by omega⟩ (by repeat' (first | exact trivial | exact rfl | exact ⟨_, rfl, ALe.refl⟩ | refine And.intro ?_ ?_)) (by repeat' (first | exact trivial | exact rfl | exact ⟨_, rfl, ALe.refl⟩ | refine And.intro ?_ ?_)) ?_
      intro i ⟨hi, hall⟩
      rcases Nat.lt_or_ge i c.length with hlt | hge
      · obtain ⟨x, hx⟩ := getE hlt
        obtain ⟨hb, ha⟩ := hca x (List.mem_of_getElem? hx)
        have hof := c_rof l x.cls (by omega)
        have hofa := c_rof x.aft x.cls (by omega)
        have hlo := ofC_leng (l := l) (c := x.cls)
        have hla := ofC_leng (l := x.aft) (c := x.cls)
        have heq := c_same (ofC l x.cls) x.bef (by omega) (by omega)
        by_cases hba : ofC l x.cls = x.bef
        · rw [pB_t hba] at heq
          have a1 := fun hn => appAt_i hx hba.symm hn
          have a2 := fun hn => appAt_0 hx hba.symm hn
          generalize hm : ofC l x.cls = M at *
          generalize hm2 : ofC x.aft x.cls = M2 at *
          repeat' (first | (refine idx_sl (k := i) (at_map hx) rfl ?_) | refine o1 ?_ | refine o2 ?_ | refine k1 ?_ | refine k2 ?_ | refine k3 ?_ | refine k4 ?_ | refine k6 ?_ | refine k7 ?_ | refine k8 ?_ | refine And.intro ?_ ?_ | exact trivial | refine o3 ?_ | refine o4 ?_ | refine o5 ?_ | refine o6 ?_ | refine k5 ?_ | (intro h; first | exact Bool.noConfusion h | exact nz _ h | exact nl h | (simp at h; done) | (simp at h; first | (exfalso; omega) | skip) | skip) | (change retOk _ _ _ _; refine ret_pure rfl trivial ?_) | exact (rfl : allOne _ = true) | (refine (?_ : (0 : Int) ≤ _); omega) | (refine (?_ : _ ≠ _); omega) | (refine (?_ : srcLen _ = rowsLen _); rfl) | exact Nat.le_of_ble_eq_true rfl | exact (by kernel_rfl : drawOk _ _ = true) | refine eqv_len_map ?_ | refine eqv_size ?_ | refine eqv_put (eqv_ck ?_) | refine eqv_zero ?_ | refine eqv_wrap (by omega) (by omega) ?_ | refine eqv_u64 (by omega) (by omega) ?_ | refine eqv_u8 (by omega) (by omega) ?_ | refine eqv_to _ (set_map rfl rfl) ?_ | refine ⟨_, _, (by first | rfl | assumption), at_map (by assumption), ?_⟩ | refine ⟨_, _, (by first | rfl | assumption), (by assumption), ?_⟩ | refine ⟨_, at_map (by assumption), (by decide), ?_⟩ | refine ⟨_, at_map (by assumption), ?_⟩ | (refine (?_ : _ ≤ 140737488355328); simp [rowsLen] <;> omega) | (refine (?_ : _ ≤ 9223372036854775807); simp [rowsLen] <;> omega) | (refine (?_ : _ = rowsLen _); simp [rowsLen] <;> omega) | refine eqv_to _ (app_row rfl) (eqv_to _ app_len ?_) | refine eqv_to _ (app_first rfl) (eqv_to 1 rfl ?_) | refine idx_sl (at_map (by assumption)) (by omega) ?_ | refine idx_ms _ (by first | rfl | assumption) (by first | assumption | omega) ?_ | (change vcFunD _ _ _ _ _; refine callD_eq rfl (by repeat' (first | trivial | refine And.intro ?_ ?_ | (show 0 + _ ≤ List.length _; simp))) ALeL.refl (hof) rfl ?_) | (change vcFunD _ _ _ _ _; refine callD_eq rfl (by repeat' (first | trivial | refine And.intro ?_ ?_ | (show 0 + _ ≤ List.length _; simp))) ALeL.refl (heq) rfl ?_) | (change vcFunD _ _ _ _ _; refine callD_eq rfl (by repeat' (first | trivial | refine And.intro ?_ ?_ | (show 0 + _ ≤ List.length _; simp))) ALeL.refl (hofa) rfl ?_) | fail)
          · have g := a1 (fun e => by omega)
            obtain ⟨e1, e2⟩ := ap3 (w := w) h0 hord hall hlt (by rw [g]; decide)
            rw [g] at e1
            exact leq_c e2 e1
          · exact ⟨i + 1, ⟨by omega, all_lt_succ hall (a2 (by omega))⟩, by omega, back [] rfl rfl trivial (by repeat' (first | exact trivial | exact rfl | exact ⟨_, rfl, ALe.refl⟩ | refine And.intro ?_ ?_))⟩
        · rw [pB_f hba] at heq
          have hba2 : ¬ x.bef = ofC l x.cls := fun e => hba e.symm
          obtain ⟨e1, e2⟩ := ap3 (w := w) h0 hord hall hlt (by rw [appAt_s hx hba2]; decide)
          rw [appAt_s hx hba2] at e1
          generalize hm : ofC l x.cls = M at *
          repeat' (first | (refine idx_sl (k := i) (at_map hx) rfl ?_) | refine o1 ?_ | refine o2 ?_ | refine k1 ?_ | refine k2 ?_ | refine k3 ?_ | refine k4 ?_ | refine k6 ?_ | refine k7 ?_ | refine k8 ?_ | refine And.intro ?_ ?_ | exact trivial | refine o3 ?_ | refine o4 ?_ | refine o5 ?_ | refine o6 ?_ | refine k5 ?_ | (intro h; first | exact Bool.noConfusion h | exact nz _ h | exact nl h | (simp at h; done) | (simp at h; first | (exfalso; omega) | skip) | skip) | (change retOk _ _ _ _; refine ret_pure rfl trivial ?_) | exact (rfl : allOne _ = true) | (refine (?_ : (0 : Int) ≤ _); omega) | (refine (?_ : _ ≠ _); omega) | (refine (?_ : srcLen _ = rowsLen _); rfl) | exact Nat.le_of_ble_eq_true rfl | exact (by kernel_rfl : drawOk _ _ = true) | refine eqv_len_map ?_ | refine eqv_size ?_ | refine eqv_put (eqv_ck ?_) | refine eqv_zero ?_ | refine eqv_wrap (by omega) (by omega) ?_ | refine eqv_u64 (by omega) (by omega) ?_ | refine eqv_u8 (by omega) (by omega) ?_ | refine eqv_to _ (set_map rfl rfl) ?_ | refine ⟨_, _, (by first | rfl | assumption), at_map (by assumption), ?_⟩ | refine ⟨_, _, (by first | rfl | assumption), (by assumption), ?_⟩ | refine ⟨_, at_map (by assumption), (by decide), ?_⟩ | refine ⟨_, at_map (by assumption), ?_⟩ | (refine (?_ : _ ≤ 140737488355328); simp [rowsLen] <;> omega) | (refine (?_ : _ ≤ 9223372036854775807); simp [rowsLen] <;> omega) | (refine (?_ : _ = rowsLen _); simp [rowsLen] <;> omega) | refine eqv_to _ (app_row rfl) (eqv_to _ app_len ?_) | refine eqv_to _ (app_first rfl) (eqv_to 1 rfl ?_) | refine idx_sl (at_map (by assumption)) (by omega) ?_ | refine idx_ms _ (by first | rfl | assumption) (by first | assumption | omega) ?_ | (change vcFunD _ _ _ _ _; refine callD_eq rfl (by repeat' (first | trivial | refine And.intro ?_ ?_ | (show 0 + _ ≤ List.length _; simp))) ALeL.refl (hof) rfl ?_) | (change vcFunD _ _ _ _ _; refine callD_eq rfl (by repeat' (first | trivial | refine And.intro ?_ ?_ | (show 0 + _ ≤ List.length _; simp))) ALeL.refl (heq) rfl ?_) | fail)
          exact leq_c e2 e1
      · have hall : ∀ j, j < c.length → appAt l c j = 0 := fun j hj => hall j (by omega)
        obtain ⟨e1, e2, e3⟩ := ap4 (w := w) h0 hord hall
        have hout := flat_len (K := clsOf (c.map Chg.cls ++ l.map Sess.cls)) (M := 2000000) fun k _ => appG_len (l := l) (c := c) (fun x hx => (hca x hx).2) (by omega) k
        have hKl := clsA_len (c := c) (l := l)
        have hout : (appL l c).length ≤ 1000000000 := by
          have h3 : (clsOf (c.map Chg.cls ++ l.map Sess.cls)).length * 2000000 ≤ 496 * 2000000 := Nat.mul_le_mul_right _ (by omega)
          unfold appL; omega
        have hvo := c_rvalid (appL l c) w (by omega)
        have hnews := flat_len (K := c) (f := Chg.aft) (M := 2000000) fun x hx => (hca x hx).2
        have hcm : c.length * 2000000 ≤ 400 * 2000000 := Nat.mul_le_mul_right _ hc
        have hrc := c_rclasses l (c.flatMap Chg.aft) (by omega) (by omega)
        have href : (clsU l (c.flatMap Chg.aft)).flatMap (appG l c) = appL l c := (appL_ref (appAt_all hall)).symm
        have hKb := clsU_len (a := l) (b := c.flatMap Chg.aft)
        generalize clsU l (c.flatMap Chg.aft) = K at *
        repeat' (first | refine o1 ?_ | refine o2 ?_ | refine k1 ?_ | refine k2 ?_ | refine k3 ?_ | refine k4 ?_ | refine k6 ?_ | refine k7 ?_ | refine k8 ?_ | refine And.intro ?_ ?_ | exact trivial | refine o3 ?_ | refine o4 ?_ | refine o5 ?_ | refine o6 ?_ | refine k5 ?_ | (intro h; first | exact Bool.noConfusion h | exact nz _ h | exact nl h | (simp at h; done) | (simp at h; first | (exfalso; omega) | skip) | skip) | (change retOk _ _ _ _; refine ret_pure rfl trivial ?_) | exact (rfl : allOne _ = true) | (refine (?_ : (0 : Int) ≤ _); omega) | (refine (?_ : _ ≠ _); omega) | (refine (?_ : srcLen _ = rowsLen _); rfl) | exact Nat.le_of_ble_eq_true rfl | exact (by kernel_rfl : drawOk _ _ = true) | refine eqv_len_map ?_ | refine eqv_size ?_ | refine eqv_put (eqv_ck ?_) | refine eqv_zero ?_ | refine eqv_wrap (by omega) (by omega) ?_ | refine eqv_u64 (by omega) (by omega) ?_ | refine eqv_u8 (by omega) (by omega) ?_ | refine eqv_to _ (set_map rfl rfl) ?_ | refine ⟨_, _, (by first | rfl | assumption), at_map (by assumption), ?_⟩ | refine ⟨_, _, (by first | rfl | assumption), (by assumption), ?_⟩ | refine ⟨_, at_map (by assumption), (by decide), ?_⟩ | refine ⟨_, at_map (by assumption), ?_⟩ | (refine (?_ : _ ≤ 140737488355328); simp [rowsLen] <;> omega) | (refine (?_ : _ ≤ 9223372036854775807); simp [rowsLen] <;> omega) | (refine (?_ : _ = rowsLen _); simp [rowsLen] <;> omega) | refine eqv_to _ (app_row rfl) (eqv_to _ app_len ?_) | refine eqv_to _ (app_first rfl) (eqv_to 1 rfl ?_) | refine idx_sl (at_map (by assumption)) (by omega) ?_ | refine idx_ms _ (by first | rfl | assumption) (by first | assumption | omega) ?_ | fail)
        refine loop_for (fun i : Nat => [(0, .pv (encSess l)), (1, .pv (encChgs c)), (2, vint .i64 w), (10, slP 0 6 (((c.take i).flatMap Chg.aft).map Sess.row)), (11, vint .i64 i)]) (fun i => [obP 51 6 (((c.take i).flatMap Chg.aft).map Sess.row)]) (fun i => i ≤ c.length) (fun i => c.length - i) 0 (Nat.zero_le _) ?_ ?_
        · exact back [0] rfl rfl (by repeat' (first | exact trivial | exact rfl | exact ren_get rfl | refine kept_ob rfl ?_ | exact ⟨_, rfl, ALe.refl⟩ | refine And.intro ?_ ?_)) (by repeat' (first | exact trivial | exact rfl | exact ren_get rfl | refine kept_ob rfl ?_ | exact ⟨_, rfl, ALe.refl⟩ | refine And.intro ?_ ?_))
        intro i hi
        rcases Nat.lt_or_ge i c.length with hlt | hge
        · obtain ⟨x, hx⟩ := getE hlt
          have hsn := aft_snoc hx
          have hpre := flat_take_len (f := Chg.aft) (K := c) (i := i + 1)
          have hln := congrArg List.length hsn
          rw [List.length_append, List.length_map] at hln
          generalize ((c.take i).flatMap Chg.aft).map Sess.row = R at *
          have hb1 : (R.length + (x.aft.map Sess.row).length) * 64 ≤ 140737488355328 := by omega
          have hb2 : R.length + (x.aft.map Sess.row).length ≤ 9223372036854775807 := by omega
          repeat' (first | (refine fv_sl ?_) | (refine fh_ob ?_) | (refine idx_sl (k := i) (at_map hx) rfl ?_) | ((refine o_appL (id := 0) (rows := R) rfl rfl rfl rfl rfl rfl rfl rfl rfl rfl rfl hb1 hb2 ?_)) | refine o1 ?_ | refine o2 ?_ | refine k1 ?_ | refine k2 ?_ | refine k3 ?_ | refine k4 ?_ | refine k6 ?_ | refine k7 ?_ | refine k8 ?_ | refine And.intro ?_ ?_ | exact trivial | refine o3 ?_ | refine o4 ?_ | refine o5 ?_ | refine o6 ?_ | refine k5 ?_ | (intro h; first | exact Bool.noConfusion h | exact nz _ h | exact nl h | (simp at h; done) | (simp at h; first | (exfalso; omega) | skip) | skip) | (change retOk _ _ _ _; refine ret_pure rfl trivial ?_) | exact (rfl : allOne _ = true) | (refine (?_ : (0 : Int) ≤ _); omega) | (refine (?_ : _ ≠ _); omega) | (refine (?_ : srcLen _ = rowsLen _); rfl) | exact Nat.le_of_ble_eq_true rfl | exact (by kernel_rfl : drawOk _ _ = true) | refine eqv_len_map ?_ | refine eqv_size ?_ | refine eqv_put (eqv_ck ?_) | refine eqv_zero ?_ | refine eqv_wrap (by omega) (by omega) ?_ | refine eqv_u64 (by omega) (by omega) ?_ | refine eqv_u8 (by omega) (by omega) ?_ | refine eqv_to _ (set_map rfl rfl) ?_ | refine ⟨_, _, (by first | rfl | assumption), at_map (by assumption), ?_⟩ | refine ⟨_, _, (by first | rfl | assumption), (by assumption), ?_⟩ | refine ⟨_, at_map (by assumption), (by decide), ?_⟩ | refine ⟨_, at_map (by assumption), ?_⟩ | (refine (?_ : _ ≤ 140737488355328); simp [rowsLen] <;> omega) | (refine (?_ : _ ≤ 9223372036854775807); simp [rowsLen] <;> omega) | (refine (?_ : _ = rowsLen _); simp [rowsLen] <;> omega) | refine eqv_to _ (app_row rfl) (eqv_to _ app_len ?_) | refine eqv_to _ (app_first rfl) (eqv_to 1 rfl ?_) | refine idx_sl (at_map (by assumption)) (by omega) ?_ | refine idx_ms _ (by first | rfl | assumption) (by first | assumption | omega) ?_ | fail)
          refine ⟨i + 1, hlt, by omega, ?_⟩
          rw [hsn]
          exact back [1] rfl rfl (by repeat' (first | exact trivial | exact rfl | exact ren_get rfl | refine kept_ob rfl ?_ | exact ⟨_, rfl, ALe.refl⟩ | refine And.intro ?_ ?_)) (by repeat' (first | exact trivial | exact rfl | exact ren_get rfl | refine kept_ob rfl ?_ | exact ⟨_, rfl, ALe.refl⟩ | (refine slot_eq rfl (congrArg (vint .i64) ?_); omega) | refine And.intro ?_ ?_))
        · obtain rfl : i = c.length := by omega
          rw [List.take_length]
          generalize c.flatMap Chg.aft = NW at *
          repeat' (first | (refine fv_sl ?_) | (refine fh_ob ?_) | ((change vcFun _ _ [_, _] _ _; refine call_slG (id := 0) (ty := 51) rfl hrc ?_; intro H' hl')) | ((change forceH H' _; refine forceH_in ?_)) | refine o1 ?_ | refine o2 ?_ | refine k1 ?_ | refine k2 ?_ | refine k3 ?_ | refine k4 ?_ | refine k6 ?_ | refine k7 ?_ | refine k8 ?_ | refine And.intro ?_ ?_ | exact trivial | refine o3 ?_ | refine o4 ?_ | refine o5 ?_ | refine o6 ?_ | refine k5 ?_ | (intro h; first | exact Bool.noConfusion h | exact nz _ h | exact nl h | (simp at h; done) | (simp at h; first | (exfalso; omega) | skip) | skip) | (change retOk _ _ _ _; refine ret_pure rfl trivial ?_) | exact (rfl : allOne _ = true) | (refine (?_ : (0 : Int) ≤ _); omega) | (refine (?_ : _ ≠ _); omega) | (refine (?_ : srcLen _ = rowsLen _); rfl) | exact Nat.le_of_ble_eq_true rfl | exact (by kernel_rfl : drawOk _ _ = true) | refine eqv_len_map ?_ | refine eqv_size ?_ | refine eqv_put (eqv_ck ?_) | refine eqv_zero ?_ | refine eqv_wrap (by omega) (by omega) ?_ | refine eqv_u64 (by omega) (by omega) ?_ | refine eqv_u8 (by omega) (by omega) ?_ | refine eqv_to _ (set_map rfl rfl) ?_ | refine ⟨_, _, (by first | rfl | assumption), at_map (by assumption), ?_⟩ | refine ⟨_, _, (by first | rfl | assumption), (by assumption), ?_⟩ | refine ⟨_, at_map (by assumption), (by decide), ?_⟩ | refine ⟨_, at_map (by assumption), ?_⟩ | (refine (?_ : _ ≤ 140737488355328); simp [rowsLen] <;> omega) | (refine (?_ : _ ≤ 9223372036854775807); simp [rowsLen] <;> omega) | (refine (?_ : _ = rowsLen _); simp [rowsLen] <;> omega) | refine eqv_to _ (app_row rfl) (eqv_to _ app_len ?_) | refine eqv_to _ (app_first rfl) (eqv_to 1 rfl ?_) | refine idx_sl (at_map (by assumption)) (by omega) ?_ | refine idx_ms _ (by first | rfl | assumption) (by first | assumption | omega) ?_ | fail)
          refine loop_for (fun i : Nat => [(0, .pv (encSess l)), (1, .pv (encChgs c)), (2, vint .i64 w), (12, slP 0 6 (((K.take i).flatMap (appG l c)).map Sess.row)), (13, .pv (.sl 1 (K.map strRow))), (14, vint .i64 i)]) (fun i => [obP 51 6 (((K.take i).flatMap (appG l c)).map Sess.row)]) (fun i => i ≤ K.length) (fun i => K.length - i) 0 (Nat.zero_le _) ?_ ?_
          · exact back [0] rfl rfl (by repeat' (first | exact trivial | exact rfl | exact ren_get rfl | refine kept_ob rfl ?_ | exact ⟨_, rfl, ALe.refl⟩ | refine And.intro ?_ ?_)) (by repeat' (first | exact trivial | exact rfl | exact ren_get rfl | refine kept_ob rfl ?_ | exact ⟨_, rfl, ALe.refl⟩ | refine And.intro ?_ ?_))
          intro i hi
          rcases Nat.lt_or_ge i K.length with hlt | hge
          · obtain ⟨k, hk⟩ := getE hlt
            have hsn := flat_snoc (l := l) (c := c) hk
            have hpre := flat_take_len (f := appG l c) (K := K) (i := i + 1)
            rw [href] at hpre
            have hln := congrArg List.length hsn
            rw [List.length_append, List.length_map] at hln
            generalize ((K.take i).flatMap (appG l c)).map Sess.row = R at *
            repeat' (first | (refine fv_sl ?_) | (refine fh_ob ?_) | (refine idx_sl (k := i) (at_map hk) rfl ?_) | ((change vcFun _ _ _ _ _; refine call_rof (by omega) ?_)) | refine o1 ?_ | refine o2 ?_ | refine k1 ?_ | refine k2 ?_ | refine k3 ?_ | refine k4 ?_ | refine k6 ?_ | refine k7 ?_ | refine k8 ?_ | refine And.intro ?_ ?_ | exact trivial | refine o3 ?_ | refine o4 ?_ | refine o5 ?_ | refine o6 ?_ | refine k5 ?_ | (intro h; first | exact Bool.noConfusion h | exact nz _ h | exact nl h | (simp at h; done) | (simp at h; first | (exfalso; omega) | skip) | skip) | (change retOk _ _ _ _; refine ret_pure rfl trivial ?_) | exact (rfl : allOne _ = true) | (refine (?_ : (0 : Int) ≤ _); omega) | (refine (?_ : _ ≠ _); omega) | (refine (?_ : srcLen _ = rowsLen _); rfl) | exact Nat.le_of_ble_eq_true rfl | exact (by kernel_rfl : drawOk _ _ = true) | refine eqv_len_map ?_ | refine eqv_size ?_ | refine eqv_put (eqv_ck ?_) | refine eqv_zero ?_ | refine eqv_wrap (by omega) (by omega) ?_ | refine eqv_u64 (by omega) (by omega) ?_ | refine eqv_u8 (by omega) (by omega) ?_ | refine eqv_to _ (set_map rfl rfl) ?_ | refine ⟨_, _, (by first | rfl | assumption), at_map (by assumption), ?_⟩ | refine ⟨_, _, (by first | rfl | assumption), (by assumption), ?_⟩ | refine ⟨_, at_map (by assumption), (by decide), ?_⟩ | refine ⟨_, at_map (by assumption), ?_⟩ | (refine (?_ : _ ≤ 140737488355328); simp [rowsLen] <;> omega) | (refine (?_ : _ ≤ 9223372036854775807); simp [rowsLen] <;> omega) | (refine (?_ : _ = rowsLen _); simp [rowsLen] <;> omega) | refine eqv_to _ (app_row rfl) (eqv_to _ app_len ?_) | refine eqv_to _ (app_first rfl) (eqv_to 1 rfl ?_) | refine idx_sl (at_map (by assumption)) (by omega) ?_ | refine idx_ms _ (by first | rfl | assumption) (by first | assumption | omega) ?_ | fail)
            refine loop_for (fun m : Nat => [(0, .pv (encSess l)), (1, .pv (encChgs c)), (2, vint .i64 w), (12, slP 0 6 R), (13, .pv (.sl 1 (K.map strRow))), (14, vint .i64 i), (15, .pv (encSess (appG l (c.take m) k))), (16, vint .i64 m)]) (fun m => [obP 51 6 R]) (fun m => m ≤ c.length) (fun m => c.length - m) 0 (Nat.zero_le _) ?_ ?_
            · exact back [0] rfl rfl (by repeat' (first | exact trivial | exact rfl | exact ren_get rfl | refine kept_ob rfl ?_ | exact ⟨_, rfl, ALe.refl⟩ | refine And.intro ?_ ?_)) (by repeat' (first | exact trivial | exact rfl | exact ren_get rfl | refine kept_ob rfl ?_ | exact ⟨_, rfl, ALe.refl⟩ | refine And.intro ?_ ?_))
            intro m hm
            rcases Nat.lt_or_ge m c.length with hml | hmg
            · obtain ⟨x, hx⟩ := getE hml
              repeat' (first | (refine fv_sl ?_) | (refine fh_ob ?_) | (refine idx_sl (k := m) (at_map hx) rfl ?_) | (refine idx_sl (k := i) (at_map hk) rfl ?_) | refine o1 ?_ | refine o2 ?_ | refine k1 ?_ | refine k2 ?_ | refine k3 ?_ | refine k4 ?_ | refine k6 ?_ | refine k7 ?_ | refine k8 ?_ | refine And.intro ?_ ?_ | exact trivial | refine o3 ?_ | refine o4 ?_ | refine o5 ?_ | refine o6 ?_ | refine k5 ?_ | (intro h; first | exact Bool.noConfusion h | exact nz _ h | exact nl h | (simp at h; done) | (simp at h; first | (exfalso; omega) | skip) | skip) | (change retOk _ _ _ _; refine ret_pure rfl trivial ?_) | exact (rfl : allOne _ = true) | (refine (?_ : (0 : Int) ≤ _); omega) | (refine (?_ : _ ≠ _); omega) | (refine (?_ : srcLen _ = rowsLen _); rfl) | exact Nat.le_of_ble_eq_true rfl | exact (by kernel_rfl : drawOk _ _ = true) | refine eqv_len_map ?_ | refine eqv_size ?_ | refine eqv_put (eqv_ck ?_) | refine eqv_zero ?_ | refine eqv_wrap (by omega) (by omega) ?_ | refine eqv_u64 (by omega) (by omega) ?_ | refine eqv_u8 (by omega) (by omega) ?_ | refine eqv_to _ (set_map rfl rfl) ?_ | refine ⟨_, _, (by first | rfl | assumption), at_map (by assumption), ?_⟩ | refine ⟨_, _, (by first | rfl | assumption), (by assumption), ?_⟩ | refine ⟨_, at_map (by assumption), (by decide), ?_⟩ | refine ⟨_, at_map (by assumption), ?_⟩ | (refine (?_ : _ ≤ 140737488355328); simp [rowsLen] <;> omega) | (refine (?_ : _ ≤ 9223372036854775807); simp [rowsLen] <;> omega) | (refine (?_ : _ = rowsLen _); simp [rowsLen] <;> omega) | refine eqv_to _ (app_row rfl) (eqv_to _ app_len ?_) | refine eqv_to _ (app_first rfl) (eqv_to 1 rfl ?_) | refine idx_sl (at_map (by assumption)) (by omega) ?_ | refine idx_ms _ (by first | rfl | assumption) (by first | assumption | omega) ?_ | fail)
              · refine ⟨m + 1, hml, by omega, ?_⟩
                rw [appG_t (ordered_pair.1 hord.1) hx (sEq_iff.1 (by assumption))]
                exact back [0] rfl rfl (by repeat' (first | exact trivial | exact rfl | exact ren_get rfl | refine kept_ob rfl ?_ | exact ⟨_, rfl, ALe.refl⟩ | refine And.intro ?_ ?_)) (by repeat' (first | exact trivial | exact rfl | exact ren_get rfl | refine kept_ob rfl ?_ | exact ⟨_, rfl, ALe.refl⟩ | (refine slot_eq rfl (congrArg (vint .i64) ?_); omega) | refine And.intro ?_ ?_))
              · refine ⟨m + 1, hml, by omega, ?_⟩
                rw [appG_f hx (sEq_f.1 (by assumption))]
                exact back [0] rfl rfl (by repeat' (first | exact trivial | exact rfl | exact ren_get rfl | refine kept_ob rfl ?_ | exact ⟨_, rfl, ALe.refl⟩ | refine And.intro ?_ ?_)) (by repeat' (first | exact trivial | exact rfl | exact ren_get rfl | refine kept_ob rfl ?_ | exact ⟨_, rfl, ALe.refl⟩ | (refine slot_eq rfl (congrArg (vint .i64) ?_); omega) | refine And.intro ?_ ?_))
            · obtain rfl : m = c.length := by omega
              rw [List.take_length]
              generalize hag : appG l c k = G at *
              have hb1 : (R.length + (G.map Sess.row).length) * 64 ≤ 140737488355328 := by omega
              have hb2 : R.length + (G.map Sess.row).length ≤ 9223372036854775807 := by omega
              repeat' (first | (refine fv_sl ?_) | (refine fh_ob ?_) | ((refine o_appL (id := 0) (rows := R) rfl rfl rfl rfl rfl rfl rfl rfl rfl rfl rfl hb1 hb2 ?_)) | refine o1 ?_ | refine o2 ?_ | refine k1 ?_ | refine k2 ?_ | refine k3 ?_ | refine k4 ?_ | refine k6 ?_ | refine k7 ?_ | refine k8 ?_ | refine And.intro ?_ ?_ | exact trivial | refine o3 ?_ | refine o4 ?_ | refine o5 ?_ | refine o6 ?_ | refine k5 ?_ | (intro h; first | exact Bool.noConfusion h | exact nz _ h | exact nl h | (simp at h; done) | (simp at h; first | (exfalso; omega) | skip) | skip) | (change retOk _ _ _ _; refine ret_pure rfl trivial ?_) | exact (rfl : allOne _ = true) | (refine (?_ : (0 : Int) ≤ _); omega) | (refine (?_ : _ ≠ _); omega) | (refine (?_ : srcLen _ = rowsLen _); rfl) | exact Nat.le_of_ble_eq_true rfl | exact (by kernel_rfl : drawOk _ _ = true) | refine eqv_len_map ?_ | refine eqv_size ?_ | refine eqv_put (eqv_ck ?_) | refine eqv_zero ?_ | refine eqv_wrap (by omega) (by omega) ?_ | refine eqv_u64 (by omega) (by omega) ?_ | refine eqv_u8 (by omega) (by omega) ?_ | refine eqv_to _ (set_map rfl rfl) ?_ | refine ⟨_, _, (by first | rfl | assumption), at_map (by assumption), ?_⟩ | refine ⟨_, _, (by first | rfl | assumption), (by assumption), ?_⟩ | refine ⟨_, at_map (by assumption), (by decide), ?_⟩ | refine ⟨_, at_map (by assumption), ?_⟩ | (refine (?_ : _ ≤ 140737488355328); simp [rowsLen] <;> omega) | (refine (?_ : _ ≤ 9223372036854775807); simp [rowsLen] <;> omega) | (refine (?_ : _ = rowsLen _); simp [rowsLen] <;> omega) | refine eqv_to _ (app_row rfl) (eqv_to _ app_len ?_) | refine eqv_to _ (app_first rfl) (eqv_to 1 rfl ?_) | refine idx_sl (at_map (by assumption)) (by omega) ?_ | refine idx_ms _ (by first | rfl | assumption) (by first | assumption | omega) ?_ | fail)
              refine ⟨i + 1, hlt, by omega, ?_⟩
              rw [hsn]
              exact back [1] rfl rfl (by repeat' (first | exact trivial | exact rfl | exact ren_get rfl | refine kept_ob rfl ?_ | exact ⟨_, rfl, ALe.refl⟩ | refine And.intro ?_ ?_)) (by repeat' (first | exact trivial | exact rfl | exact ren_get rfl | refine kept_ob rfl ?_ | exact ⟨_, rfl, ALe.refl⟩ | (refine slot_eq rfl (congrArg (vint .i64) ?_); omega) | refine And.intro ?_ ?_))
          · obtain rfl : i = K.length := by omega
            rw [List.take_length, href]
            generalize appL l c = X at *
            by_cases hz : validE X w = 0
            · rw [hz] at hvo
              rw [e1, e2 hz, hz]
              repeat' (first | (refine fv_sl ?_) | (refine fh_ob ?_) | ((change vcFun _ _ _ _ _; refine call_sl2 (id := 0) rfl rfl trivial hvo rfl ?_)) | refine o1 ?_ | refine o2 ?_ | refine k1 ?_ | refine k2 ?_ | refine k3 ?_ | refine k4 ?_ | refine k6 ?_ | refine k7 ?_ | refine k8 ?_ | refine And.intro ?_ ?_ | exact trivial | refine o3 ?_ | refine o4 ?_ | refine o5 ?_ | refine o6 ?_ | refine k5 ?_ | (intro h; first | exact Bool.noConfusion h | exact nz _ h | exact nl h | (simp at h; done) | (simp at h; first | (exfalso; omega) | skip) | skip) | (change retOk _ _ _ _; refine ret_pure rfl trivial ?_) | exact (rfl : allOne _ = true) | (refine (?_ : (0 : Int) ≤ _); omega) | (refine (?_ : _ ≠ _); omega) | (refine (?_ : srcLen _ = rowsLen _); rfl) | exact Nat.le_of_ble_eq_true rfl | exact (by kernel_rfl : drawOk _ _ = true) | refine eqv_len_map ?_ | refine eqv_size ?_ | refine eqv_put (eqv_ck ?_) | refine eqv_zero ?_ | refine eqv_wrap (by omega) (by omega) ?_ | refine eqv_u64 (by omega) (by omega) ?_ | refine eqv_u8 (by omega) (by omega) ?_ | refine eqv_to _ (set_map rfl rfl) ?_ | refine ⟨_, _, (by first | rfl | assumption), at_map (by assumption), ?_⟩ | refine ⟨_, _, (by first | rfl | assumption), (by assumption), ?_⟩ | refine ⟨_, at_map (by assumption), (by decide), ?_⟩ | refine ⟨_, at_map (by assumption), ?_⟩ | (refine (?_ : _ ≤ 140737488355328); simp [rowsLen] <;> omega) | (refine (?_ : _ ≤ 9223372036854775807); simp [rowsLen] <;> omega) | (refine (?_ : _ = rowsLen _); simp [rowsLen] <;> omega) | refine eqv_to _ (app_row rfl) (eqv_to _ app_len ?_) | refine eqv_to _ (app_first rfl) (eqv_to 1 rfl ?_) | refine idx_sl (at_map (by assumption)) (by omega) ?_ | refine idx_ms _ (by first | rfl | assumption) (by first | assumption | omega) ?_ | fail)
              exact ret_sl2 (id := 0) (ty := 51) rfl rfl
            · have e4 := e3 hz
              clear e3 e2
              generalize validE X w = E at *
              repeat' (first | (refine fv_sl ?_) | (refine fh_ob ?_) | ((change vcFun _ _ _ _ _; refine call_sl2 (id := 0) rfl rfl trivial hvo rfl ?_)) | refine o1 ?_ | refine o2 ?_ | refine k1 ?_ | refine k2 ?_ | refine k3 ?_ | refine k4 ?_ | refine k6 ?_ | refine k7 ?_ | refine k8 ?_ | refine And.intro ?_ ?_ | exact trivial | refine o3 ?_ | refine o4 ?_ | refine o5 ?_ | refine o6 ?_ | refine k5 ?_ | (intro h; first | exact Bool.noConfusion h | exact nz _ h | exact nl h | (simp at h; done) | (simp at h; first | (exfalso; omega) | skip) | skip) | (change retOk _ _ _ _; refine ret_pure rfl trivial ?_) | exact (rfl : allOne _ = true) | (refine (?_ : (0 : Int) ≤ _); omega) | (refine (?_ : _ ≠ _); omega) | (refine (?_ : srcLen _ = rowsLen _); rfl) | exact Nat.le_of_ble_eq_true rfl | exact (by kernel_rfl : drawOk _ _ = true) | refine eqv_len_map ?_ | refine eqv_size ?_ | refine eqv_put (eqv_ck ?_) | refine eqv_zero ?_ | refine eqv_wrap (by omega) (by omega) ?_ | refine eqv_u64 (by omega) (by omega) ?_ | refine eqv_u8 (by omega) (by omega) ?_ | refine eqv_to _ (set_map rfl rfl) ?_ | refine ⟨_, _, (by first | rfl | assumption), at_map (by assumption), ?_⟩ | refine ⟨_, _, (by first | rfl | assumption), (by assumption), ?_⟩ | refine ⟨_, at_map (by assumption), (by decide), ?_⟩ | refine ⟨_, at_map (by assumption), ?_⟩ | (refine (?_ : _ ≤ 140737488355328); simp [rowsLen] <;> omega) | (refine (?_ : _ ≤ 9223372036854775807); simp [rowsLen] <;> omega) | (refine (?_ : _ = rowsLen _); simp [rowsLen] <;> omega) | refine eqv_to _ (app_row rfl) (eqv_to _ app_len ?_) | refine eqv_to _ (app_first rfl) (eqv_to 1 rfl ?_) | refine idx_sl (at_map (by assumption)) (by omega) ?_ | refine idx_ms _ (by first | rfl | assumption) (by first | assumption | omega) ?_ | fail)
              exact leq_c e4 e1
    · rw [pB_f hord] at ho
      obtain ⟨e1, e2⟩ := ap2 (w := w) h0 hord
      refine acall_of tok mixed 125 rfl (fn := Tryz.f14) (c := Tryz.f14.body.getD .skip) (by kernel_rfl) (by kernel_rfl) (by kernel_rfl) rfl 0 rfl ?_
      repeat' (first | refine o1 ?_ | refine o2 ?_ | refine k1 ?_ | refine k2 ?_ | refine k3 ?_ | refine k4 ?_ | refine k6 ?_ | refine k7 ?_ | refine k8 ?_ | refine And.intro ?_ ?_ | exact trivial | refine o3 ?_ | refine o4 ?_ | refine o5 ?_ | refine o6 ?_ | refine k5 ?_ | (intro h; first | exact Bool.noConfusion h | exact nz _ h | exact nl h | (simp at h; done) | (simp at h; first | (exfalso; omega) | skip) | skip) | (change retOk _ _ _ _; refine ret_pure rfl trivial ?_) | exact (rfl : allOne _ = true) | (refine (?_ : (0 : Int) ≤ _); omega) | (refine (?_ : _ ≠ _); omega) | (refine (?_ : srcLen _ = rowsLen _); rfl) | exact Nat.le_of_ble_eq_true rfl | exact (by kernel_rfl : drawOk _ _ = true) | refine eqv_len_map ?_ | refine eqv_size ?_ | refine eqv_put (eqv_ck ?_) | refine eqv_zero ?_ | refine eqv_wrap (by omega) (by omega) ?_ | refine eqv_u64 (by omega) (by omega) ?_ | refine eqv_u8 (by omega) (by omega) ?_ | refine eqv_to _ (set_map rfl rfl) ?_ | refine ⟨_, _, (by first | rfl | assumption), at_map (by assumption), ?_⟩ | refine ⟨_, _, (by first | rfl | assumption), (by assumption), ?_⟩ | refine ⟨_, at_map (by assumption), (by decide), ?_⟩ | refine ⟨_, at_map (by assumption), ?_⟩ | (refine (?_ : _ ≤ 140737488355328); simp [rowsLen] <;> omega) | (refine (?_ : _ ≤ 9223372036854775807); simp [rowsLen] <;> omega) | (refine (?_ : _ = rowsLen _); simp [rowsLen] <;> omega) | refine eqv_to _ (app_row rfl) (eqv_to _ app_len ?_) | refine eqv_to _ (app_first rfl) (eqv_to 1 rfl ?_) | refine idx_sl (at_map (by assumption)) (by omega) ?_ | refine idx_ms _ (by first | rfl | assumption) (by first | assumption | omega) ?_ | (change vcFun _ _ _ _ _; refine call_eq rfl (by repeat' (first | trivial | refine And.intro ?_ ?_ | (show 0 + _ ≤ List.length _; simp))) ALeL.refl (hva) rfl ?_) | (change vcFun _ _ _ _ _; refine call_eq rfl (by repeat' (first | trivial | refine And.intro ?_ ?_ | (show 0 + _ ≤ List.length _; simp))) ALeL.refl (ho) rfl ?_) | fail)
      exact leq_c e2 e1
  · obtain ⟨e1, e2⟩ := ap1 (c := c) h0
    generalize validE l w = E at *
    refine acall_of tok mixed 125 rfl (fn := Tryz.f14) (c := Tryz.f14.body.getD .skip) (by kernel_rfl) (by kernel_rfl) (by kernel_rfl) rfl 0 rfl ?_
    repeat' (first | refine o1 ?_ | refine o2 ?_ | refine k1 ?_ | refine k2 ?_ | refine k3 ?_ | refine k4 ?_ | refine k6 ?_ | refine k7 ?_ | refine k8 ?_ | refine And.intro ?_ ?_ | exact trivial | refine o3 ?_ | refine o4 ?_ | refine o5 ?_ | refine o6 ?_ | refine k5 ?_ | (intro h; first | exact Bool.noConfusion h | exact nz _ h | exact nl h | (simp at h; done) | (simp at h; first | (exfalso; omega) | skip) | skip) | (change retOk _ _ _ _; refine ret_pure rfl trivial ?_) | exact (rfl : allOne _ = true) | (refine (?_ : (0 : Int) ≤ _); omega) | (refine (?_ : _ ≠ _); omega) | (refine (?_ : srcLen _ = rowsLen _); rfl) | exact Nat.le_of_ble_eq_true rfl | exact (by kernel_rfl : drawOk _ _ = true) | refine eqv_len_map ?_ | refine eqv_size ?_ | refine eqv_put (eqv_ck ?_) | refine eqv_zero ?_ | refine eqv_wrap (by omega) (by omega) ?_ | refine eqv_u64 (by omega) (by omega) ?_ | refine eqv_u8 (by omega) (by omega) ?_ | refine eqv_to _ (set_map rfl rfl) ?_ | refine ⟨_, _, (by first | rfl | assumption), at_map (by assumption), ?_⟩ | refine ⟨_, _, (by first | rfl | assumption), (by assumption), ?_⟩ | refine ⟨_, at_map (by assumption), (by decide), ?_⟩ | refine ⟨_, at_map (by assumption), ?_⟩ | (refine (?_ : _ ≤ 140737488355328); simp [rowsLen] <;> omega) | (refine (?_ : _ ≤ 9223372036854775807); simp [rowsLen] <;> omega) | (refine (?_ : _ = rowsLen _); simp [rowsLen] <;> omega) | refine eqv_to _ (app_row rfl) (eqv_to _ app_len ?_) | refine eqv_to _ (app_first rfl) (eqv_to 1 rfl ?_) | refine idx_sl (at_map (by assumption)) (by omega) ?_ | refine idx_ms _ (by first | rfl | assumption) (by first | assumption | omega) ?_ | (change vcFun _ _ _ _ _; refine call_eq rfl (by repeat' (first | trivial | refine And.intro ?_ ?_ | (show 0 + _ ≤ List.length _; simp))) ALeL.refl (hva) rfl ?_) | fail)
    exact leq_c e2 e1
theorem c_rapply (l : List Sess) (c : List Chg) (w : Int) (hl : l.length ≤ 100000000) (hc : c.length ≤ 400) (hca : ∀ x ∈ c, x.bef.length ≤ 2000000 ∧ x.aft.length ≤ 2000000) : PCall Tryz.prog 14 [.pv (encSess l), .pv (encChgs c), vint .i64 w] (fun r => r = .tup [.pv (encSess (applV l c w)), vint .i64 (applE l c w)]) := (c_rapply0 l c w hl hc hca).weak fun r k => ⟨_, k.le, rfl⟩
end Go.Proofs.YtbcacaodfpgflaaGreatDoor.Cw

/-
  Contracts: Invert, on both sides.
-/
namespace Go.Proofs.YtbcacaodfpgflaaGreatDoor.Cw
open Go Go.Cw Go.Proofs
set_option linter.unusedVariables false
set_option maxRecDepth 100000
set_option maxHeartbeats 8000000

theorem inv_len {c : List Chg} {i : Nat} : (invC (c.take i)).length ≤ i := by
  unfold invC; rw [List.length_map]; exact List.length_take_le ..
theorem c_inv0 (c : List Chg) (hc : c.length ≤ 1000000) (hcl : ChgsL c) : PCall Tryz.prog 18 [.pv (encChgs c)] (fun r => Leq r (.pv (encChgs (invC c)))) := by
  refine acall_of tok mixed 26 rfl (fn := Tryz.f18) (c := Tryz.f18.body.getD .skip) (by kernel_rfl) (by kernel_rfl) (by kernel_rfl) rfl 0 rfl ?_
  repeat' (first | refine o1 ?_ | refine o2 ?_ | refine k1 ?_ | refine k2 ?_ | refine k3 ?_ | refine k4 ?_ | refine k6 ?_ | refine k7 ?_ | refine k8 ?_ | refine And.intro ?_ ?_ | exact trivial | refine o3 ?_ | refine o4 ?_ | refine o5 ?_ | refine o6 ?_ | refine k5 ?_ | (intro h; first | exact Bool.noConfusion h | exact nz _ h | exact nl h | (simp at h; done) | (simp at h; first | (exfalso; omega) | skip) | skip) | (change retOk _ _ _ _; refine ret_pure rfl trivial ?_) | exact (rfl : allOne _ = true) | (refine (?_ : (0 : Int) ≤ _); omega) | (refine (?_ : _ ≠ _); omega) | (refine (?_ : srcLen _ = rowsLen _); rfl) | exact Nat.le_of_ble_eq_true rfl | exact (by kernel_rfl : drawOk _ _ = true) | refine eqv_len_map ?_ | refine eqv_size ?_ | refine eqv_put (eqv_ck ?_) | refine eqv_zero ?_ | refine eqv_wrap (by omega) (by omega) ?_ | refine eqv_u64 (by omega) (by omega) ?_ | refine eqv_u8 (by omega) (by omega) ?_ | refine eqv_to _ (set_map rfl rfl) ?_ | refine ⟨_, _, (by first | rfl | assumption), at_map (by assumption), ?_⟩ | refine ⟨_, _, (by first | rfl | assumption), (by assumption), ?_⟩ | refine ⟨_, at_map (by assumption), (by decide), ?_⟩ | refine ⟨_, at_map (by assumption), ?_⟩ | (refine (?_ : _ ≤ 140737488355328); simp [rowsLen] <;> omega) | (refine (?_ : _ ≤ 9223372036854775807); simp [rowsLen] <;> omega) | (refine (?_ : _ = rowsLen _); simp [rowsLen] <;> omega) | refine eqv_to _ (app_row rfl) (eqv_to _ app_len ?_) | refine eqv_to _ (app_first rfl) (eqv_to 1 rfl ?_) | refine idx_sl (at_map (by assumption)) (by omega) ?_ | refine idx_ms _ (by first | rfl | assumption) (by first | assumption | omega) ?_ | fail)
  refine loop_for (fun i : Nat => [(3, slP 0 3 ((invC (c.take i)).map Chg.row)), (6, .pv (encChgs c)), (7, vint .i64 c.length), (8, vint .i64 i)]) (fun i => [obP 54 3 ((invC (c.take i)).map Chg.row)]) (fun i => i ≤ c.length) (fun i => c.length - i) 0 (Nat.zero_le _) ?_ ?_
  · exact back [0] rfl rfl (by repeat' (first | exact trivial | exact rfl | exact ren_get rfl | refine kept_ob rfl ?_ | exact ⟨_, rfl, ALe.refl⟩ | refine And.intro ?_ ?_)) (by repeat' (first | exact trivial | exact rfl | exact ren_get rfl | refine kept_ob rfl ?_ | exact ⟨_, rfl, ALe.refl⟩ | refine And.intro ?_ ?_))
  intro i hi
  rcases Nat.lt_or_ge i c.length with hlt | hge
  · obtain ⟨x, hx⟩ := getE hlt
    obtain ⟨h1, h2⟩ := hcl x (List.mem_of_getElem? hx)
    have hs := inv_snoc hx
    have hn := inv_len (c := c) (i := i)
    generalize invC (c.take i) = D at *
    have hb1 : ((D.map Chg.row).length + 1) * 64 ≤ 140737488355328 := by rw [List.length_map]; omega
    have hb2 : (D.map Chg.row).length + 1 ≤ 9223372036854775807 := by rw [List.length_map]; omega
    repeat' (first | (refine fv_sl ?_) | (refine fh_ob ?_) | ((refine o_appD rfl rfl rfl rfl rfl rfl rfl rfl rfl rfl rfl hb1 hb2 ?_)) | refine o1 ?_ | refine o2 ?_ | refine k1 ?_ | refine k2 ?_ | refine k3 ?_ | refine k4 ?_ | refine k6 ?_ | refine k7 ?_ | refine k8 ?_ | refine And.intro ?_ ?_ | exact trivial | refine o3 ?_ | refine o4 ?_ | refine o5 ?_ | refine o6 ?_ | refine k5 ?_ | (intro h; first | exact Bool.noConfusion h | exact nz _ h | exact nl h | (simp at h; done) | (simp at h; first | (exfalso; omega) | skip) | skip) | (change retOk _ _ _ _; refine ret_pure rfl trivial ?_) | exact (rfl : allOne _ = true) | (refine (?_ : (0 : Int) ≤ _); omega) | (refine (?_ : _ ≠ _); omega) | (refine (?_ : srcLen _ = rowsLen _); rfl) | exact Nat.le_of_ble_eq_true rfl | exact (by kernel_rfl : drawOk _ _ = true) | refine eqv_len_map ?_ | refine eqv_size ?_ | refine eqv_put (eqv_ck ?_) | refine eqv_zero ?_ | refine eqv_wrap (by omega) (by omega) ?_ | refine eqv_u64 (by omega) (by omega) ?_ | refine eqv_u8 (by omega) (by omega) ?_ | refine eqv_to _ (set_map rfl rfl) ?_ | refine ⟨_, _, (by first | rfl | assumption), at_map (by assumption), ?_⟩ | refine ⟨_, _, (by first | rfl | assumption), (by assumption), ?_⟩ | refine ⟨_, at_map (by assumption), (by decide), ?_⟩ | refine ⟨_, at_map (by assumption), ?_⟩ | (refine (?_ : _ ≤ 140737488355328); simp [rowsLen] <;> omega) | (refine (?_ : _ ≤ 9223372036854775807); simp [rowsLen] <;> omega) | (refine (?_ : _ = rowsLen _); simp [rowsLen] <;> omega) | refine eqv_to _ (app_row rfl) (eqv_to _ app_len ?_) | refine eqv_to _ (app_first rfl) (eqv_to 1 rfl ?_) | refine idx_sl (at_map (by assumption)) (by omega) ?_ | refine idx_ms _ (by first | rfl | assumption) (by first | assumption | omega) ?_ | (change vcFunD _ _ _ _ _; refine callD_eq rfl (by repeat' (first | trivial | refine And.intro ?_ ?_ | (show 0 + _ ≤ List.length _; simp))) ALeL.refl (c_cloneS x.aft h2) rfl ?_) | (change vcFunD _ _ _ _ _; refine callD_eq rfl (by repeat' (first | trivial | refine And.intro ?_ ?_ | (show 0 + _ ≤ List.length _; simp))) ALeL.refl (c_cloneS x.bef h1) rfl ?_) | fail)
    all_goals
      refine ⟨i + 1, hlt, by omega, ?_⟩
      rw [hs, map_snoc, sl_app, ob_app]
      exact back [3] rfl rfl (by repeat' (first | exact trivial | exact rfl | exact ren_get rfl | refine kept_ob rfl ?_ | exact ⟨_, rfl, ALe.refl⟩ | refine And.intro ?_ ?_)) (by repeat' (first | exact trivial | exact rfl | exact ren_get rfl | refine kept_ob rfl ?_ | exact ⟨_, rfl, ALe.refl⟩ | (refine slot_eq rfl (congrArg (vint .i64) ?_); omega) | refine And.intro ?_ ?_))
  · obtain rfl : i = c.length := by omega
    rw [List.take_length]
    repeat' (first | (refine fv_sl ?_) | (refine fh_ob ?_) | refine o1 ?_ | refine o2 ?_ | refine k1 ?_ | refine k2 ?_ | refine k3 ?_ | refine k4 ?_ | refine k6 ?_ | refine k7 ?_ | refine k8 ?_ | refine And.intro ?_ ?_ | exact trivial | refine o3 ?_ | refine o4 ?_ | refine o5 ?_ | refine o6 ?_ | refine k5 ?_ | (intro h; first | exact Bool.noConfusion h | exact nz _ h | exact nl h | (simp at h; done) | (simp at h; first | (exfalso; omega) | skip) | skip) | (change retOk _ _ _ _; refine ret_pure rfl trivial ?_) | exact (rfl : allOne _ = true) | (refine (?_ : (0 : Int) ≤ _); omega) | (refine (?_ : _ ≠ _); omega) | (refine (?_ : srcLen _ = rowsLen _); rfl) | exact Nat.le_of_ble_eq_true rfl | exact (by kernel_rfl : drawOk _ _ = true) | refine eqv_len_map ?_ | refine eqv_size ?_ | refine eqv_put (eqv_ck ?_) | refine eqv_zero ?_ | refine eqv_wrap (by omega) (by omega) ?_ | refine eqv_u64 (by omega) (by omega) ?_ | refine eqv_u8 (by omega) (by omega) ?_ | refine eqv_to _ (set_map rfl rfl) ?_ | refine ⟨_, _, (by first | rfl | assumption), at_map (by assumption), ?_⟩ | refine ⟨_, _, (by first | rfl | assumption), (by assumption), ?_⟩ | refine ⟨_, at_map (by assumption), (by decide), ?_⟩ | refine ⟨_, at_map (by assumption), ?_⟩ | (refine (?_ : _ ≤ 140737488355328); simp [rowsLen] <;> omega) | (refine (?_ : _ ≤ 9223372036854775807); simp [rowsLen] <;> omega) | (refine (?_ : _ = rowsLen _); simp [rowsLen] <;> omega) | refine eqv_to _ (app_row rfl) (eqv_to _ app_len ?_) | refine eqv_to _ (app_first rfl) (eqv_to 1 rfl ?_) | refine idx_sl (at_map (by assumption)) (by omega) ?_ | refine idx_ms _ (by first | rfl | assumption) (by first | assumption | omega) ?_ | fail)
    exact ret_sl (id := 0) (ty := 54) rfl ⟨ALe.refl⟩ leq_down
theorem c_inv (c : List Chg) (hc : c.length ≤ 1000000) (hcl : ChgsL c) : PCall Tryz.prog 18 [.pv (encChgs c)] (fun r => r = .pv (encChgs (invC c))) := (c_inv0 c hc hcl).weak fun r k => ⟨_, k.le, rfl⟩
theorem c_rinv0 (c : List Chg) (hc : c.length ≤ 1000000) : PCall Tryz.prog 19 [.pv (encChgs c)] (fun r => Leq r (.pv (encChgs (invC c)))) := by
  refine acall_of tok mixed 31 rfl (fn := Tryz.f19) (c := Tryz.f19.body.getD .skip) (by kernel_rfl) (by kernel_rfl) (by kernel_rfl) rfl 0 rfl ?_
  repeat' (first | refine o1 ?_ | refine o2 ?_ | refine k1 ?_ | refine k2 ?_ | refine k3 ?_ | refine k4 ?_ | refine k6 ?_ | refine k7 ?_ | refine k8 ?_ | refine And.intro ?_ ?_ | exact trivial | refine o3 ?_ | refine o4 ?_ | refine o5 ?_ | refine o6 ?_ | refine k5 ?_ | (intro h; first | exact Bool.noConfusion h | exact nz _ h | exact nl h | (simp at h; done) | (simp at h; first | (exfalso; omega) | skip) | skip) | (change retOk _ _ _ _; refine ret_pure rfl trivial ?_) | exact (rfl : allOne _ = true) | (refine (?_ : (0 : Int) ≤ _); omega) | (refine (?_ : _ ≠ _); omega) | (refine (?_ : srcLen _ = rowsLen _); rfl) | exact Nat.le_of_ble_eq_true rfl | exact (by kernel_rfl : drawOk _ _ = true) | refine eqv_len_map ?_ | refine eqv_size ?_ | refine eqv_put (eqv_ck ?_) | refine eqv_zero ?_ | refine eqv_wrap (by omega) (by omega) ?_ | refine eqv_u64 (by omega) (by omega) ?_ | refine eqv_u8 (by omega) (by omega) ?_ | refine eqv_to _ (set_map rfl rfl) ?_ | refine ⟨_, _, (by first | rfl | assumption), at_map (by assumption), ?_⟩ | refine ⟨_, _, (by first | rfl | assumption), (by assumption), ?_⟩ | refine ⟨_, at_map (by assumption), (by decide), ?_⟩ | refine ⟨_, at_map (by assumption), ?_⟩ | (refine (?_ : _ ≤ 140737488355328); simp [rowsLen] <;> omega) | (refine (?_ : _ ≤ 9223372036854775807); simp [rowsLen] <;> omega) | (refine (?_ : _ = rowsLen _); simp [rowsLen] <;> omega) | refine eqv_to _ (app_row rfl) (eqv_to _ app_len ?_) | refine eqv_to _ (app_first rfl) (eqv_to 1 rfl ?_) | refine idx_sl (at_map (by assumption)) (by omega) ?_ | refine idx_ms _ (by first | rfl | assumption) (by first | assumption | omega) ?_ | fail)
  refine loop_for (fun i : Nat => [(0, .pv (encChgs c)), (3, slP 0 3 ((invC (c.take i)).map Chg.row)), (4, vint .i64 i)]) (fun i => [obP 54 3 ((invC (c.take i)).map Chg.row)]) (fun i => i ≤ c.length) (fun i => c.length - i) 0 (Nat.zero_le _) ?_ ?_
  · exact back [0] rfl rfl (by repeat' (first | exact trivial | exact rfl | exact ren_get rfl | refine kept_ob rfl ?_ | exact ⟨_, rfl, ALe.refl⟩ | refine And.intro ?_ ?_)) (by repeat' (first | exact trivial | exact rfl | exact ren_get rfl | refine kept_ob rfl ?_ | exact ⟨_, rfl, ALe.refl⟩ | refine And.intro ?_ ?_))
  intro i hi
  rcases Nat.lt_or_ge i c.length with hlt | hge
  · obtain ⟨x, hx⟩ := getE hlt
    have hs := inv_snoc hx
    have hn := inv_len (c := c) (i := i)
    generalize invC (c.take i) = D at *
    have hb1 : ((D.map Chg.row).length + 1) * 64 ≤ 140737488355328 := by rw [List.length_map]; omega
    have hb2 : (D.map Chg.row).length + 1 ≤ 9223372036854775807 := by rw [List.length_map]; omega
    repeat' (first | (refine fv_sl ?_) | (refine fh_ob ?_) | (refine idx_sl (k := i) (at_map hx) rfl ?_) | ((refine o_appD rfl rfl rfl rfl rfl rfl rfl rfl rfl rfl rfl hb1 hb2 ?_)) | refine o1 ?_ | refine o2 ?_ | refine k1 ?_ | refine k2 ?_ | refine k3 ?_ | refine k4 ?_ | refine k6 ?_ | refine k7 ?_ | refine k8 ?_ | refine And.intro ?_ ?_ | exact trivial | refine o3 ?_ | refine o4 ?_ | refine o5 ?_ | refine o6 ?_ | refine k5 ?_ | (intro h; first | exact Bool.noConfusion h | exact nz _ h | exact nl h | (simp at h; done) | (simp at h; first | (exfalso; omega) | skip) | skip) | (change retOk _ _ _ _; refine ret_pure rfl trivial ?_) | exact (rfl : allOne _ = true) | (refine (?_ : (0 : Int) ≤ _); omega) | (refine (?_ : _ ≠ _); omega) | (refine (?_ : srcLen _ = rowsLen _); rfl) | exact Nat.le_of_ble_eq_true rfl | exact (by kernel_rfl : drawOk _ _ = true) | refine eqv_len_map ?_ | refine eqv_size ?_ | refine eqv_put (eqv_ck ?_) | refine eqv_zero ?_ | refine eqv_wrap (by omega) (by omega) ?_ | refine eqv_u64 (by omega) (by omega) ?_ | refine eqv_u8 (by omega) (by omega) ?_ | refine eqv_to _ (set_map rfl rfl) ?_ | refine ⟨_, _, (by first | rfl | assumption), at_map (by assumption), ?_⟩ | refine ⟨_, _, (by first | rfl | assumption), (by assumption), ?_⟩ | refine ⟨_, at_map (by assumption), (by decide), ?_⟩ | refine ⟨_, at_map (by assumption), ?_⟩ | (refine (?_ : _ ≤ 140737488355328); simp [rowsLen] <;> omega) | (refine (?_ : _ ≤ 9223372036854775807); simp [rowsLen] <;> omega) | (refine (?_ : _ = rowsLen _); simp [rowsLen] <;> omega) | refine eqv_to _ (app_row rfl) (eqv_to _ app_len ?_) | refine eqv_to _ (app_first rfl) (eqv_to 1 rfl ?_) | refine idx_sl (at_map (by assumption)) (by omega) ?_ | refine idx_ms _ (by first | rfl | assumption) (by first | assumption | omega) ?_ | fail)
    all_goals
      refine ⟨i + 1, hlt, by omega, ?_⟩
      rw [hs, map_snoc, sl_app, ob_app]
      exact back [2] rfl rfl (by repeat' (first | exact trivial | exact rfl | exact ren_get rfl | refine kept_ob rfl ?_ | exact ⟨_, rfl, ALe.refl⟩ | refine And.intro ?_ ?_)) (by repeat' (first | exact trivial | exact rfl | exact ren_get rfl | refine kept_ob rfl ?_ | exact ⟨_, rfl, ALe.refl⟩ | (refine slot_eq rfl (congrArg (vint .i64) ?_); omega) | refine And.intro ?_ ?_))
  · obtain rfl : i = c.length := by omega
    rw [List.take_length]
    repeat' (first | (refine fv_sl ?_) | (refine fh_ob ?_) | refine o1 ?_ | refine o2 ?_ | refine k1 ?_ | refine k2 ?_ | refine k3 ?_ | refine k4 ?_ | refine k6 ?_ | refine k7 ?_ | refine k8 ?_ | refine And.intro ?_ ?_ | exact trivial | refine o3 ?_ | refine o4 ?_ | refine o5 ?_ | refine o6 ?_ | refine k5 ?_ | (intro h; first | exact Bool.noConfusion h | exact nz _ h | exact nl h | (simp at h; done) | (simp at h; first | (exfalso; omega) | skip) | skip) | (change retOk _ _ _ _; refine ret_pure rfl trivial ?_) | exact (rfl : allOne _ = true) | (refine (?_ : (0 : Int) ≤ _); omega) | (refine (?_ : _ ≠ _); omega) | (refine (?_ : srcLen _ = rowsLen _); rfl) | exact Nat.le_of_ble_eq_true rfl | exact (by kernel_rfl : drawOk _ _ = true) | refine eqv_len_map ?_ | refine eqv_size ?_ | refine eqv_put (eqv_ck ?_) | refine eqv_zero ?_ | refine eqv_wrap (by omega) (by omega) ?_ | refine eqv_u64 (by omega) (by omega) ?_ | refine eqv_u8 (by omega) (by omega) ?_ | refine eqv_to _ (set_map rfl rfl) ?_ | refine ⟨_, _, (by first | rfl | assumption), at_map (by assumption), ?_⟩ | refine ⟨_, _, (by first | rfl | assumption), (by assumption), ?_⟩ | refine ⟨_, at_map (by assumption), (by decide), ?_⟩ | refine ⟨_, at_map (by assumption), ?_⟩ | (refine (?_ : _ ≤ 140737488355328); simp [rowsLen] <;> omega) | (refine (?_ : _ ≤ 9223372036854775807); simp [rowsLen] <;> omega) | (refine (?_ : _ = rowsLen _); simp [rowsLen] <;> omega) | refine eqv_to _ (app_row rfl) (eqv_to _ app_len ?_) | refine eqv_to _ (app_first rfl) (eqv_to 1 rfl ?_) | refine idx_sl (at_map (by assumption)) (by omega) ?_ | refine idx_ms _ (by first | rfl | assumption) (by first | assumption | omega) ?_ | fail)
    exact ret_sl (id := 0) (ty := 54) rfl ⟨ALe.refl⟩ leq_down
theorem c_rinv (c : List Chg) (hc : c.length ≤ 1000000) : PCall Tryz.prog 19 [.pv (encChgs c)] (fun r => r = .pv (encChgs (invC c))) := (c_rinv0 c hc).weak fun r k => ⟨_, k.le, rfl⟩
end Go.Proofs.YtbcacaodfpgflaaGreatDoor.Cw
