/-
  Part 8 of the proof (SC4, SC5, SW1, SA1, SW4): what later parts use. No conditions.
-/
import Derived.Test.YtihpjcmloecaaaaGreatMJ7
/-
  Symmetry: the least plan that arises from a plan (reference's side).
-/
namespace Go.Proofs.YtihpjcmloecaaaaGreat.Cw
open Go Go.Cw Go.Proofs
set_option linter.unusedVariables false
set_option maxRecDepth 100000
set_option maxHeartbeats 8000000
def bI (s : List Int) (b : Int) : Int := if b < 0 then -1 else plI s b
end Go.Proofs.YtihpjcmloecaaaaGreat.Cw
/-
  Symmetry: plans by dice, of any model; the reference's plans.
-/
namespace Go.Proofs.YtihpjcmloecaaaaGreat.Cw
open Go Go.Cw Go.Proofs
set_option linter.unusedVariables false
set_option maxRecDepth 100000
set_option maxHeartbeats 8000000
theorem opt_iff {m : Model} {j : Nat} {o : Int} {l : List Opt} (hl : m.classes[j]? = some l) : (o = -1 ∨ optionP m j o) ↔ (-1 ≤ o ∧ o < l.length) := by
  unfold optionP
  rw [Int.toNat_natCast, hl]
  constructor
  · rintro (h | ⟨_, h1, l', h2, h3⟩)
    · omega
    · cases h2; omega
  · rintro ⟨h1, h2⟩
    by_cases h : o = -1
    · exact .inl h
    · exact .inr ⟨by omega, by omega, l, rfl, h2⟩
structure PlX (m : Model) (full : Bool) (l : List Int) (n : Nat) : Prop where
  len : l.length = n
  at_ : ∀ i, i < n → ∀ o c, l[i]? = some o → m.classes[i]? = some c → -1 ≤ o ∧ (1 ≤ c.length → o < c.length) ∧ (full = false → o < c.length) ∧ (full = true → 0 ≤ o)
theorem PlX.nil {m : Model} {full : Bool} : PlX m full [] 0 := ⟨rfl, fun i h => absurd h (Nat.not_lt_zero _)⟩
theorem PlX.app {m : Model} {full : Bool} {l : List Int} {n : Nat} {o : Int} {c : List Opt} (h : PlX m full l n) (hc : m.classes[n]? = some c) (h1 : -1 ≤ o ∧ (1 ≤ c.length → o < c.length) ∧ (full = false → o < c.length) ∧ (full = true → 0 ≤ o)) : PlX m full (l ++ [o]) (n + 1) := by
  have hl := h.len
  refine ⟨by simp [hl], fun i hi o' c' ho hc' => ?_⟩
  rcases Nat.lt_or_ge i n with g | g
  · rw [List.getElem?_append_left (by omega)] at ho
    exact h.at_ i g o' c' ho hc'
  · obtain rfl : i = n := by omega
    rw [List.getElem?_append_right (by omega)] at ho
    simp [hl] at ho; subst ho
    rw [hc] at hc'; cases hc'
    exact h1
theorem next_rng (t : List Int) (k : Nat) (n : Int) : 0 ≤ nextV t k n ∧ (1 ≤ n → nextV t k n < n) := by
  by_cases h1 : 1 ≤ n
  · exact ⟨(nextV_range t k h1).1, fun _ => (nextV_range t k h1).2⟩
  · refine ⟨?_, fun h => absurd h h1⟩
    unfold nextV modI
    (repeat' split) <;> omega
def planS (m : Model) (t : List Int) (k : Nat) (full : Bool) : Nat → List Int × Nat
  | 0 => ([], k)
  | i + 1 => match m.classes[i]? with
    | some c => ((planS m t k full i).1 ++ [if full then nextV t (planS m t k full i).2 c.length else nextV t (planS m t k full i).2 ((c.length : Int) + 1) - 1], nextK t (planS m t k full i).2)
    | none => planS m t k full i
theorem planS_next {m : Model} {t : List Int} {k i : Nat} {full : Bool} {c : List Opt} (hc : m.classes[i]? = some c) : planS m t k full (i + 1) = ((planS m t k full i).1 ++ [if full then nextV t (planS m t k full i).2 c.length else nextV t (planS m t k full i).2 ((c.length : Int) + 1) - 1], nextK t (planS m t k full i).2) := by
  rw [planS, hc]
theorem planS_ok {m : Model} {t : List Int} {k : Nat} {full : Bool} (hk : k ≤ t.length) : ∀ {i : Nat}, i ≤ m.classes.length → (planS m t k full i).2 ≤ t.length ∧ PlX m full (planS m t k full i).1 i
  | 0, _ => ⟨hk, PlX.nil⟩
  | i + 1, hi => by
    obtain ⟨h1, h2⟩ := planS_ok (m := m) (full := full) hk (i := i) (by omega)
    obtain ⟨c, hc⟩ := getE (l := m.classes) (i := i) (by omega)
    rw [planS_next hc]
    refine ⟨nextK_le h1, h2.app hc ?_⟩
    cases full
    · obtain ⟨a, b⟩ := next_rng t (planS m t k false i).2 ((c.length : Int) + 1)
      have := b (by omega)
      exact ⟨by simp only [Bool.false_eq_true, if_false]; omega, fun _ => by simp only [Bool.false_eq_true, if_false]; omega, fun _ => by simp only [Bool.false_eq_true, if_false]; omega, fun e => Bool.noConfusion e⟩
    · obtain ⟨a, b⟩ := next_rng t (planS m t k true i).2 (c.length : Int)
      exact ⟨by simp only [if_true]; omega, fun h => by simp only [if_true]; exact b (by omega), (fun e => Bool.noConfusion e), fun _ => by simp only [if_true]; exact a⟩
theorem c_planX (t : List Int) (k : Nat) (ht : t.length ≤ 400) (hk : k ≤ t.length) (m : Model) (full : Bool) (hm : LaidX m) :
    ACall Tryz.prog 18 [.ptr 0 2 0 0, ag m.cells, vbool full] [dice t k] (fun r H' => r = .pv (encInts (planS m t k full m.classes.length).1) ∧ H' = [dice t (planS m t k full m.classes.length).2]) := by
  have hcn := hm.cn
  refine acall_of tok mixed 39 rfl (fn := Tryz.f18) (c := Tryz.f18.body.getD .skip) (by kernel_rfl) (by kernel_rfl) (by kernel_rfl) rfl 1 rfl ?_
  repeat' (first | refine o1 ?_ | refine o2 ?_ | refine k1 ?_ | refine k2 ?_ | refine k4 ?_ | fail)
  refine loop_for (fun x : Nat => [(0, .ptr 0 2 0 0), (2, vbool full), (4, .ptr 1 4 0 0), (7, slP 2 1 ((planS m t k full x).1.map intRow)), (8, vint .i64 x)]) (fun x => [dice t (planS m t k full x).2, mdlO m, obP 3 1 ((planS m t k full x).1.map intRow)])
    (fun x => x ≤ m.classes.length) (fun x => m.classes.length - x) 0 (Nat.zero_le _) ?_ ?_
  · exact back [0, 1, 2] rfl rfl (by repeat' (first | exact trivial | exact rfl | refine And.intro ?_ ?_)) (by repeat' (first | exact trivial | exact rfl | refine And.intro ?_ ?_))
  intro i hi
  obtain ⟨hk2, hP⟩ := planS_ok (m := m) (t := t) (full := full) hk hi
  dsimp only [mdlO]
  rcases Nat.lt_or_ge i m.classes.length with hil | hig
  · obtain ⟨c, hc⟩ := getE hil
    have hnx := planS_next (t := t) (k := k) (full := full) hc
    generalize planS m t k full i = st at *
    obtain ⟨l, k2'⟩ := st
    dsimp only at hk2 hP hnx ⊢
    have hll := hP.len
    have hcl := hm.on c (List.mem_of_getElem? hc)
    have hb1 : ((l.map intRow).length + 1) * 8 ≤ 140737488355328 := by rw [List.length_map]; omega
    have hb2 : (l.map intRow).length + 1 ≤ 9223372036854775807 := by rw [List.length_map]; omega
    cases full
    · have hn := c_next t k2' ((c.length : Int) + 1) ht hk2 (by omega)
      obtain ⟨v0, v1⟩ := next_rng t k2' ((c.length : Int) + 1)
      have v2 := v1 (by omega)
      generalize nextV t k2' ((c.length : Int) + 1) = v at *
      generalize nextK t k2' = kq at *
      repeat' (first | ((change vcFun _ _ _ _ _; refine call_one (i := 0) rfl (fun _ _ => rfl) [.ptr 0 2 0 0, vint .i64 ((c.length : Int) + 1)] rfl hn ?_; rintro r H' ⟨rfl, rfl⟩; refine ⟨_, rfl, fun _ _ => rfl, fun _ _ => rfl, ?_⟩)) | (refine fv_sl ?_) | (refine fh_ob ?_) | (refine idx_sl (k := i) (at_map hc) (by omega) ?_) | ((refine o_app rfl rfl rfl rfl rfl rfl rfl rfl rfl rfl rfl hb1 hb2 ?_)) | refine o1 ?_ | refine o2 ?_ | refine k1 ?_ | refine k2 ?_ | refine k3 ?_ | refine k4 ?_ | refine k6 ?_ | refine And.intro ?_ ?_ | (intro h; first | exact Bool.noConfusion h | exact nz _ h | exact nl h | (simp at h; done) | (simp at h; first | (exfalso; omega) | skip) | skip) | refine eqv_len_map ?_ | refine eqv_wrap (by omega) (by omega) ?_ | fail)
      refine ⟨i + 1, hil, by omega, ?_⟩
      rw [hnx]
      simp only [Bool.false_eq_true, if_false]
      rw [map_snoc, sl_app, ob_app]
      refine back [0, 1, 4] rfl rfl ?_ ?_
      · repeat' (first | exact trivial | exact rfl | refine And.intro ?_ ?_)
      · repeat' (first | exact trivial | exact rfl | refine And.intro ?_ ?_)
    · have hn := c_next t k2' (c.length : Int) ht hk2 (by omega)
      obtain ⟨v0, v1⟩ := next_rng t k2' (c.length : Int)
      generalize nextV t k2' (c.length : Int) = v at *
      generalize nextK t k2' = kq at *
      repeat' (first | ((change vcFun _ _ _ _ _; refine call_one (i := 0) rfl (fun _ _ => rfl) [.ptr 0 2 0 0, vint .i64 (c.length : Int)] rfl hn ?_; rintro r H' ⟨rfl, rfl⟩; refine ⟨_, rfl, fun _ _ => rfl, fun _ _ => rfl, ?_⟩)) | (refine fv_sl ?_) | (refine fh_ob ?_) | (refine idx_sl (k := i) (at_map hc) (by omega) ?_) | ((refine o_app rfl rfl rfl rfl rfl rfl rfl rfl rfl rfl rfl hb1 hb2 ?_)) | refine o1 ?_ | refine o2 ?_ | refine k1 ?_ | refine k2 ?_ | refine k3 ?_ | refine k4 ?_ | refine k6 ?_ | refine And.intro ?_ ?_ | (intro h; first | exact Bool.noConfusion h | exact nz _ h | exact nl h | (simp at h; done) | (simp at h; first | (exfalso; omega) | skip) | skip) | refine eqv_len_map ?_ | refine eqv_wrap (by omega) (by omega) ?_ | fail)
      refine ⟨i + 1, hil, by omega, ?_⟩
      rw [hnx]
      simp only [if_true]
      rw [map_snoc, sl_app, ob_app]
      refine back [0, 1, 4] rfl rfl ?_ ?_
      · repeat' (first | exact trivial | exact rfl | refine And.intro ?_ ?_)
      · repeat' (first | exact trivial | exact rfl | refine And.intro ?_ ?_)
  · obtain rfl : i = m.classes.length := by omega
    generalize planS m t k full m.classes.length = st at *
    obtain ⟨l, k2'⟩ := st
    dsimp only at hk2 hP ⊢
    refine forceH_in ?_
    refine ghost_seq (Γ' := [(4, .ptr 1 4 0 0), (7, .pv (.sl 1 (l.map intRow))), (8, vint .i64 m.classes.length)]) (H' := [dice t k2', mdlO m]) (Ghost.sl (s := 7) (id := 2) rfl rfl fun H' hl hH => back [0, 1] rfl rfl ⟨hH 0 (by decide), hH 1 (by decide), trivial⟩ (by repeat' (first | exact trivial | exact rfl | refine And.intro ?_ ?_))) ?_
    dsimp only [mdlO]
    repeat' (first | refine o1 ?_ | refine o2 ?_ | refine k1 ?_ | refine k2 ?_ | refine k3 ?_ | refine k7 ?_ | refine k8 ?_ | refine And.intro ?_ ?_ | (intro h; first | exact Bool.noConfusion h | exact nz _ h | exact nl h | (simp at h; done) | (simp at h; first | (exfalso; omega) | skip) | skip) | refine eqv_len_map ?_ | fail)
    exact ret_obj [0] [dice t k2'] rfl rfl ⟨rfl, trivial⟩ (r' := .pv (.sl 1 (l.map intRow))) rfl ⟨rfl, rfl⟩
theorem plan_ex (t : List Int) (k : Nat) (ht : t.length ≤ 400) (hk : k ≤ t.length) (m : Model) (full : Bool) (hm : LaidX m) : ∃ (l : List Int) (kc : Nat), kc ≤ t.length ∧ PlX m full l m.classes.length ∧
    ACall Tryz.prog 18 [.ptr 0 2 0 0, ag m.cells, vbool full] [dice t k] (fun r H' => r = .pv (encInts l) ∧ H' = [dice t kc]) :=
  ⟨_, _, (planS_ok hk (Nat.le_refl _)).1, (planS_ok hk (Nat.le_refl _)).2, c_planX t k ht hk m full hm⟩
end Go.Proofs.YtihpjcmloecaaaaGreat.Cw
/-
  Symmetry: the law on exchanges.
-/
namespace Go.Proofs.YtihpjcmloecaaaaGreat.Cw
open Go Go.Cw Go.Proofs
set_option linter.unusedVariables false
set_option maxRecDepth 100000
set_option maxHeartbeats 8000000
theorem call_model {t : List Int} {k : Nat} {H : Heap} {K : AV → Heap → Prop} (i : Nat) (hi : H[i]? = some (dice t k)) (ht : t.length ≤ 400) (hk : k ≤ t.length)
    (hK : ∀ (m : Model) kc, kc ≤ t.length → LaidX m → K (ag m.cells) (H.set i (dice t kc))) : vcFun Tryz.prog 11 [.ptr i 2 0 0] H K := by
  refine call_one (i := i) hi (fun _ _ => rfl) [.ptr 0 2 0 0] rfl (c_model t k ht hk) ?_
  rintro r H' ⟨m, k', h1, h2, rfl, rfl⟩
  exact ⟨_, rfl, fun _ _ => rfl, fun _ _ => rfl, hK m k' h1 h2⟩
def abRow (p : Int × Int) : List PV := [ei p.1, ei p.2]
end Go.Proofs.YtihpjcmloecaaaaGreat.Cw
/-
  What the laws of chapter 22 are handed: lists of numbers, and numbers.
-/
namespace Go.Proofs.YtihpjcmloecaaaaGreat.Cw
open Go.Cw Go.Proofs
set_option linter.unusedVariables false
set_option maxRecDepth 100000
theorem in_int {qs : List PV} (h : PTy T 3 qs) : ∃ n : Int, qs = [ei n] ∧ -9223372036854775808 ≤ n ∧ n ≤ 9223372036854775807 := kd_int (by kernel_rfl) h
theorem in_ints {qs : List PV} (h : PTy T 22 qs) : ∃ l : List Int, qs = [encInts l] := by
  obtain ⟨l, h, _⟩ := kd_slice (fun s => [ei s]) (fun _ => True) (e := 3) (z := 1) (by kernel_rfl) (fun r hr => by obtain ⟨s, h, _⟩ := in_int hr; exact ⟨s, h, trivial⟩) h
  exact ⟨l, h⟩
theorem args_ints {ts : List TypeId} {al : List AV} (h : ArgsOk T (22 :: ts) al) : ∃ (l : List Int) (al' : _), al = .pv (encInts l) :: al' ∧ ArgsOk T ts al' := by
  obtain ⟨q, al', rfl, h1, h2⟩ := args_one (by kernel_rfl) h
  obtain ⟨l, h⟩ := in_ints h1
  injection h with h; subst h
  exact ⟨l, al', rfl, h2⟩
theorem args_int {ts : List TypeId} {al : List AV} (h : ArgsOk T (3 :: ts) al) : ∃ (n : Int) (al' : _), al = vint .i64 n :: al' ∧ -9223372036854775808 ≤ n ∧ n ≤ 9223372036854775807 ∧ ArgsOk T ts al' := by
  obtain ⟨q, al', rfl, h1, h2⟩ := args_one (by kernel_rfl) h
  obtain ⟨n, h, a, b⟩ := in_int h1
  injection h with h; subst h
  exact ⟨n, al', rfl, a, b, h2⟩
end Go.Proofs.YtihpjcmloecaaaaGreat.Cw
/-
  Symmetry: the example with which each law begins: two equal rooms can be exchanged.
-/
namespace Go.Proofs.YtihpjcmloecaaaaGreat.Cw
open Go Go.Cw Go.Proofs
set_option linter.unusedVariables false
set_option maxRecDepth 100000
set_option maxHeartbeats 8000000
def awO (r : Int) : Opt := ⟨⟨⟨0, 0, 0, 0⟩, r⟩, []⟩
def awL : List Opt := [awO 0, awO 1]
def awM : Model := ⟨[awL], [], [], 0⟩
theorem aw_pl (r s : Int) (h : r ≠ s) : ¬ (awO r).place = (awO s).place := fun e => h (congrArg Placed.room e)
theorem aw_at00 : placedAt awL (awO 0).place 0 = true := placed_t rfl rfl
theorem aw_at01 : placedAt awL (awO 0).place 1 = false := placed_f rfl (aw_pl 1 0 (by decide))
theorem aw_at10 : placedAt awL (awO 1).place 0 = false := placed_f rfl (aw_pl 0 1 (by decide))
theorem aw_at11 : placedAt awL (awO 1).place 1 = true := placed_t rfl rfl
theorem aw_s0 : sameP awL (awO 0).place 2 = [0] := by
  unfold sameP; rw [show List.range 2 = [0, 1] from rfl, List.filter_cons, aw_at00, if_pos rfl, List.filter_cons, aw_at01]; rfl
theorem aw_s1 : sameP awL (awO 1).place 2 = [1] := by
  unfold sameP; rw [show List.range 2 = [0, 1] from rfl, List.filter_cons, aw_at10, List.filter_cons, aw_at11]; rfl
theorem aw_s11 : sameP awL (awO 1).place 1 = [] := by
  unfold sameP; rw [show List.range 1 = [0] from rfl, List.filter_cons, aw_at10]; rfl
theorem aw_i01 : imgO awL 0 1 = some 1 := by
  show (sameP awL (awO 1).place 2)[(sameP awL (awO 0).place 0).length]? = _
  rw [aw_s1]; rfl
theorem aw_i10 : imgO awL 1 0 = some 0 := by
  show (sameP awL (awO 0).place 2)[(sameP awL (awO 1).place 1).length]? = _
  rw [aw_s0, aw_s11]; rfl
theorem aw_i11 : imgO awL 1 1 = some 1 := by
  show (sameP awL (awO 1).place 2)[(sameP awL (awO 1).place 1).length]? = _
  rw [aw_s1, aw_s11]; rfl
theorem aw_w0 : swapO awL 0 1 0 = some 1 := aw_i01
theorem aw_w1 : swapO awL 0 1 1 = some 0 := aw_i10
theorem aw_imgs : imgsL awL 0 1 2 = [1, 0] := by
  unfold imgsL; rw [show List.range 2 = [0, 1] from rfl, List.filterMap_cons_some aw_w0, List.filterMap_cons_some aw_w1]; rfl
theorem aw_ok : modelE awM = 0 := by
  refine mE0 ⟨by decide, fun l h => ?_, by decide, by decide, by decide, by decide⟩ ⟨fun l h o ho => ?_, fun i h => absurd h (Nat.not_lt_zero _), fun c h => absurd h List.not_mem_nil⟩
  · obtain rfl := List.mem_singleton.1 h; decide
  · obtain rfl := List.mem_singleton.1 h
    simp only [awL, List.mem_cons, List.not_mem_nil, or_false] at ho
    rcases ho with rfl | rfl <;> exact fun i h => absurd h (Nat.not_lt_zero _)
theorem aw_laid : Laid awM := ⟨by decide, by decide, fun l h o ho => by
    obtain rfl := List.mem_singleton.1 h
    simp only [awL, List.mem_cons, List.not_mem_nil, or_false] at ho
    rcases ho with rfl | rfl <;> decide, fun c h => absurd h List.not_mem_nil⟩
theorem aw_sw : swapP awM 0 1 := by
  refine ⟨fun l h i hi => ?_, fun p h => absurd h List.not_mem_nil, rfl⟩
  obtain rfl := List.mem_singleton.1 h
  match i, hi with
  | 0, _ => exact ⟨1, awO 0, awO 1, aw_w0, rfl, rfl, rfl⟩
  | 1, _ => exact ⟨0, awO 1, awO 0, aw_w1, rfl, rfl, rfl⟩
theorem aw_ex : exP awM 0 1 := ⟨aw_ok, by decide, by decide, by decide, aw_sw⟩
theorem aw_exV : exV awM 0 1 = [[1, 0]] := by
  unfold exV
  rw [if_pos (pB_t aw_ex)]
  show [imgsL awL 0 1 2] = _
  rw [aw_imgs]
theorem aw_rooms : roomsV awM = [0, 1] := by
  show compactI (sortI [0, 1]) = [0, 1]
  rw [show sortI [0, 1] = [0, 1] from List.mergeSort_of_pairwise (by decide)]
  decide
theorem aw_sets : setsV awM = [[0, 1]] := by
  unfold setsV
  rw [if_pos aw_ok, aw_rooms]
  show (if [(1 : Int)].filter (swB awM 0) = [] then [] else [(0 : Int) :: [1].filter (swB awM 0)]) ++ setsF awM 1 ([1].filter fun b => !swB awM 0 b) = _
  have h : swB awM 0 1 = true := pB_t aw_sw
  rw [List.filter_cons, h, if_pos rfl, List.filter_cons, h]
  rfl
theorem aw_plan : isPlanP awM [1] := ⟨rfl, fun j hj o l ho hl => by
  have hj : j < 1 := hj
  obtain rfl : j = 0 := by omega
  cases ho; cases hl; decide⟩
theorem aw_canE : canE awM [1] = 0 := by unfold canE; rw [if_pos aw_ok, pB_t aw_plan]; rfl
theorem aw_setF : setF [[0, 1]] 1 = [0, 1] := by
  unfold setF
  rw [List.find?_cons, show pB ((1 : Int) ∈ [(0 : Int), 1]) = true from pB_t (by decide)]; rfl
theorem aw_canR : canR awM [1] = [0] := by
  unfold canR
  rw [if_pos aw_canE]
  unfold canV
  rw [aw_sets]
  show (canS awM [1] [[0, 1]] (0 + 1)).1 = _
  rw [canS_next (o := 1) (l := awL) rfl rfl, if_neg (by decide)]
  show (canStep [[0, 1]] awL 1 1 0 ([1], [])).1 = _
  unfold canStep
  show ([1].set 0 ((setF [[0, 1]] 1).foldl (pickS [] fun t => imgI (imgO awL 1 t)) (-1, 1)).2) = [0]
  rw [aw_setF]
  have e1 : pickS [] (fun t => imgI (imgO awL 1 t)) (-1, 1) 0 = (0, 0) := by
    rw [pickS_put rfl (.inl (by decide))]; show (0, imgI (imgO awL 1 0)) = _; rw [aw_i10]; rfl
  have e2 : pickS [] (fun t => imgI (imgO awL 1 t)) (0, 0) 1 = (0, 0) := by
    rw [pickS_skip rfl]
    show ¬ ((0 : Int) < 0 ∨ imgI (imgO awL 1 1) < 0)
    rw [aw_i11]; decide
  rw [List.foldl_cons, e1, List.foldl_cons, e2]; rfl
theorem awake_ok : PCall Tryz.prog 10 [] (fun r => r = vbool true) := by
  have hS := c_Swap awM 0 1 aw_laid
  have hR := c_Rooms awM aw_laid
  have hC := c_canon awM [1] aw_laid
  rw [aw_exV, pB_t aw_ex] at hS
  rw [aw_sets] at hR
  rw [aw_canE, aw_canR] at hC
  refine acall_of tok mixed 66 rfl (fn := Tryz.f10) (c := Tryz.f10.body.getD .skip) (by kernel_rfl) (by kernel_rfl) (by kernel_rfl) rfl 0 rfl ?_
  repeat' (first | (refine join_in (a := .region 1 _ _) (fun _ => [(1, .ptr 0 4 0 0)]) (fun _ : Unit => [mdlO awM]) (fun _ => True) ?_) | refine o1 ?_ | refine o2 ?_ | refine k1 ?_ | refine k2 ?_ | refine And.intro ?_ ?_ | exact (by kernel_rfl : drawOk _ _ = true) | fail)
  · refine ⟨(), trivial, Ghost.trans (Ghost.pure0 (i := 1) (xs := []) (r0 := [.ms 0 6 0 2]) rfl rfl rfl ?_ rfl rfl rfl) (Ghost.trans (Ghost.shut (i := 2) (c := 0) (x := .ms 1 1 0 1) (y' := .pv (.sl 1 (awM.classes.map optsRow))) rfl rfl rfl ?_ (show ¬ (2 ∈ ([1] : List Nat)) by decide) (ALe.pv ?_)) (Ghost.trans (Ghost.shut (i := 2) (c := 1) (x := .pv (.val (.slice none 0 0))) rfl rfl rfl (by repeat' (first | trivial)) (show ¬ (2 ∈ ([] : List Nat)) by decide) (ALe.pv (PLe.nil (z := 4)))) (Ghost.trans (Ghost.shut (i := 2) (c := 2) (x := .pv (.val (.slice none 0 0))) rfl rfl rfl (by repeat' (first | trivial)) (show ¬ (2 ∈ ([] : List Nat)) by decide) (ALe.pv (PLe.nil (z := 4)))) (back [2] rfl rfl ⟨rfl, trivial⟩ (by repeat' (first | exact trivial | exact rfl | refine And.intro ?_ ?_))))))⟩
    · repeat' (first | exact True.intro | refine And.intro ?_ ?_ | (show 0 + _ ≤ List.length _; decide))
    · exact Nat.le_refl _
    · exact PLe.sl ⟨⟨PLe.sl ⟨⟨PLe.refl, PLe.refl, PLe.refl, PLe.refl, PLe.refl, PLe.nil, trivial⟩, ⟨PLe.refl, PLe.refl, PLe.refl, PLe.refl, PLe.refl, PLe.nil, trivial⟩, trivial⟩, trivial⟩, trivial⟩
  refine ⟨?_⟩
  intro _ _
  dsimp only [mdlO]
  repeat' (first | ((change vcFun _ _ _ _ _; refine call_frz rfl (by repeat' (first | trivial | refine And.intro ?_ ?_ | (show 0 + _ ≤ List.length _; simp))) ALeL.refl hS ?_; rintro _ rfl)) | ((change vcFun _ _ _ _ _; refine call_frz rfl (by repeat' (first | trivial | refine And.intro ?_ ?_ | (show 0 + _ ≤ List.length _; simp))) ALeL.refl hC ?_; rintro _ rfl)) | ((change vcFun _ _ _ _ _; refine call_frz rfl (by repeat' (first | trivial | refine And.intro ?_ ?_ | (show 0 + _ ≤ List.length _; simp))) ALeL.refl hR ?_; rintro _ rfl)) | (refine ⟨0, _, rfl, rfl, ?_⟩) | refine o1 ?_ | refine o2 ?_ | refine k1 ?_ | refine k2 ?_ | refine k7 ?_ | refine And.intro ?_ ?_ | (intro h; first | exact Bool.noConfusion h | exact nz _ h | exact nl h | (simp at h; done) | (simp at h; first | (exfalso; omega) | skip) | skip) | (change retOk _ _ _ _; refine ret_pure rfl trivial ?_) | refine eqv_len_map ?_ | fail)
  all_goals exact rfl
end Go.Proofs.YtihpjcmloecaaaaGreat.Cw
