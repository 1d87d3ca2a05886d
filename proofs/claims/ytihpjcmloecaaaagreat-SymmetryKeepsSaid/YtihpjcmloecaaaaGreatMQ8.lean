/-
  Part 8 of the proof (SE5, Mk3, Mk5, Mk5a, Mk5b, Mk5c, Mk5d, Mk6, SE6, SC4, SC5, SK4, SK5, SK6, SK7): what later parts use. No conditions.
-/
import Derived.Test.YtihpjcmloecaaaaGreatMQ7
/-
  Symmetry: even models.
-/
namespace Go.Proofs.YtihpjcmloecaaaaGreat.Cw
open Go Go.Cw Go.Proofs
set_option linter.unusedVariables false
set_option maxRecDepth 100000
set_option maxHeartbeats 8000000
structure EvL (l : List Opt) : Prop where
  le : l.length ≤ 7
  one : 1 ≤ l.length
  day : ∀ o ∈ l, o.place.time.day = 0 ∨ o.place.time.day = 1
  ch : ∀ o ∈ l, OptQ 2 o
def evB (c p n : AV) : Option AObj := some ⟨29, 4, false, .box [c, p, n, vint .i64 2]⟩
def ob6 (t r : Int) (c : AV) : Option AObj := some ⟨62, 6, false, .box [vint .i64 1, vint .i64 t, vint .i64 0, vint .i64 1, vint .i64 r, c]⟩
theorem ch_one {p : Placed} {n : Int} (h : priceP n) : OptQ 2 ⟨p, [⟨0, n⟩]⟩ := ⟨(ChQ.app (r := 2) (u := 0) ChQ.nil (by decide) h).at_, by show 1 ≤ 4; decide⟩
theorem ch_nil {p : Placed} : OptQ 2 ⟨p, []⟩ := ⟨fun i hi => absurd hi (Nat.not_lt_zero _), by show 0 ≤ 4; decide⟩
structure EvM (m : Model) : Prop where
  ok : modelE m = 0
  laid : Laid m
  cls : ∀ l ∈ m.classes, EvL l
  few : m.classes.length ≤ 5
  prs : m.pairs.length ≤ 200
  cts : m.counts.length ≤ 6
  tabs : ∀ p ∈ m.pairs, p.table.length ≤ 100
theorem even_of {C : List (List Opt)} {P : List Pair} {CS : List Count} (h1 : C.length ≤ 5) (h2 : ∀ l ∈ C, EvL l) (h3 : PrQ C 2 P 1 C.length 0) (h5 : CS.length ≤ 6) (h6 : ∀ c ∈ CS, CtQ C 2 c) : EvM ⟨C, P, CS, 2⟩ := by
  have hl := h3.len
  have hz : sizedP ⟨C, P, CS, 2⟩ := ⟨by dsimp only; omega, fun l hl => by have := (h2 l hl).le; omega, by dsimp only; omega, by dsimp only; omega, by dsimp only; omega, by dsimp only; omega⟩
  refine ⟨mE0 hz ⟨fun l hl o ho => ((h2 l hl).ch o ho).1, h3.at_, fun c hc => (h6 c hc).1⟩, ⟨by dsimp only; omega, by dsimp only; omega, fun l hl o ho => by have := ((h2 l hl).ch o ho).2; omega, fun c hc => by have := (h6 c hc).2; omega⟩, h2, h1, by dsimp only; omega, h5, fun p hp => ?_⟩
  obtain ⟨i, hi⟩ := List.getElem?_of_mem hp
  have hlt : i < P.length := (List.getElem?_eq_some_iff.1 hi).1
  obtain ⟨⟨_, _, _, ⟨a, b, ha, hb, hl⟩, _⟩, _⟩ := h3.at_ i hlt p hi
  have g1 := (h2 a (List.mem_of_getElem? ha)).le
  have g2 := (h2 b (List.mem_of_getElem? hb)).le
  rw [hl]
  exact Nat.le_trans (Nat.mul_le_mul g1 g2) (by omega)
theorem c_evenA (t : List Int) (k : Nat) (ht : t.length ≤ 400) (hk : k ≤ t.length) (a R : Nat) (ha : a ≤ 5) (hR : R ≤ 3) (hR1 : 1 ≤ R) :
    ACall Tryz.prog 25 [.ptr 0 2 0 0, vint .i64 a, vint .i64 R] [dice t k]
      (fun r H' => ∃ (m : Model) (k' : Nat), k' ≤ t.length ∧ (EvM m ∧ m.classes.length ≤ a ∧ m.rules = 2) ∧ r = ag m.cells ∧ H' = [dice t k']) := by
  refine acall_of tok mixed 105 rfl (fn := Tryz.f25) (c := Tryz.f25.body.getD .skip) (by kernel_rfl) (by kernel_rfl) (by kernel_rfl) rfl 1 rfl ?_
  repeat' (first | refine o1 ?_ | refine o2 ?_ | refine k1 ?_ | refine k2 ?_ | refine k3 ?_ | refine k4 ?_ | refine k6 ?_ | refine k7 ?_ | refine k8 ?_ | refine And.intro ?_ ?_ | exact trivial | refine o3 ?_ | refine o4 ?_ | refine o5 ?_ | refine o6 ?_ | refine k5 ?_ | (intro h; first | exact Bool.noConfusion h | exact nz _ h | exact nl h | (simp at h; done) | (simp at h; first | (exfalso; omega) | skip) | skip) | (change retOk _ _ _ _; refine ret_pure rfl trivial ?_) | exact (rfl : allOne _ = true) | (refine (?_ : (0 : Int) ≤ _); omega) | (refine (?_ : _ ≠ _); omega) | (refine (?_ : srcLen _ = rowsLen _); rfl) | exact Nat.le_of_ble_eq_true rfl | exact (by kernel_rfl : drawOk _ _ = true) | refine eqv_len_map ?_ | refine eqv_size ?_ | refine eqv_put (eqv_ck ?_) | refine eqv_zero ?_ | refine eqv_wrap (by omega) (by omega) ?_ | refine eqv_u64 (by omega) (by omega) ?_ | refine eqv_u8 (by omega) (by omega) ?_ | refine eqv_to _ (set_map rfl rfl) ?_ | refine ⟨_, _, (by first | rfl | assumption), at_map (by assumption), ?_⟩ | refine ⟨_, _, (by first | rfl | assumption), (by assumption), ?_⟩ | refine ⟨_, at_map (by assumption), (by decide), ?_⟩ | refine ⟨_, at_map (by assumption), ?_⟩ | (refine (?_ : _ ≤ 140737488355328); simp [rowsLen] <;> omega) | (refine (?_ : _ ≤ 9223372036854775807); simp [rowsLen] <;> omega) | (refine (?_ : _ = rowsLen _); simp [rowsLen] <;> omega) | refine eqv_to _ (app_row rfl) (eqv_to _ app_len ?_) | refine eqv_to _ (app_first rfl) (eqv_to 1 rfl ?_) | refine idx_sl (at_map (by assumption)) (by omega) ?_ | refine idx_ms _ (by first | rfl | assumption) (by first | assumption | omega) ?_ | (change vcFun _ _ _ _ _; refine call_next 0 rfl (by assumption) (by assumption) (by omega) (by omega) ?_; intro v kq hv1 hv2 hkq) | (change vcFun _ _ _ _ _; refine call_one2 0 rfl (by assumption) (by assumption) (by omega) (by omega) ?_; intro bq kq hkq) | (change vcFunD _ _ _ _ _; refine callD_next 0 rfl (by assumption) (by assumption) (by omega) (by omega) ?_; intro v kq hv1 hv2 hkq) | (change vcFunD _ _ _ _ _; refine callD_one2 0 rfl (by assumption) (by assumption) (by omega) (by omega) ?_; intro bq kq hkq) | fail)
  dsimp only [nilA]
  refine loop_for (fun z : Nat × Nat × List (List Opt) => [(0, .ptr 0 2 0 0), (2, vint .i64 R), (6, .ptr 1 4 0 0), (7, .ptr 2 4 0 0), (8, vint .i64 z.1)])
    (fun z => [dice t z.2.1, zeroM, evB (slP 3 1 (z.2.2.map optsRow)) nilA nilA, obP 51 1 (z.2.2.map optsRow)])
    (fun z => z.1 + z.2.2.length ≤ a ∧ z.2.1 ≤ t.length ∧ ∀ l ∈ z.2.2, EvL l) (fun z => z.1) (v.toNat, kq, []) ⟨by simp; omega, hkq, fun n h => absurd h List.not_mem_nil⟩ ?_ ?_
  · exact back [0, 1, 2, 3] rfl rfl (by repeat' (first | exact trivial | exact rfl | exact ren_get rfl | refine kept_ob rfl ?_ | refine kept_bx ren_bx0 rfl ?_ | refine kept_bx ren_bx3 rfl ?_ | refine kept_bx ren_bx1 rfl ?_ | exact ⟨_, rfl, ALe.refl⟩ | refine And.intro ?_ ?_)) ⟨rfl, rfl, rfl, rfl, slot_eq rfl (congrArg (vint .i64) (by show _ = ((v.toNat : Nat) : Int); omega)), trivial⟩
  rintro ⟨n, k, C⟩ ⟨hn, hk, hC⟩
  dsimp only at hn hk hC ⊢
  dsimp only [evB, zeroM]
  rcases Nat.eq_zero_or_pos n with rfl | hn1
  · refine forceH_in ?_
    refine ghost_seq (Γ' := [(0, .ptr 0 2 0 0), (2, vint .i64 R), (6, .ptr 1 4 0 0), (7, .ptr 2 4 0 0), (8, vint .i64 (0 : Nat))]) (H' := [dice t k, zeroM, evB (.pv (.sl 1 (C.map optsRow))) nilA nilA]) (Ghost.shut_sl (i := 2) (c := 0) (id := 3) rfl rfl rfl (by decide) fun H' hl h2 hH => back [0, 1, 2] rfl rfl ⟨hH 0 (by decide) (by decide), hH 1 (by decide) (by decide), h2, trivial⟩ (by repeat' (first | exact trivial | exact rfl | exact ren_get rfl | refine kept_ob rfl ?_ | refine kept_bx ren_bx0 rfl ?_ | refine kept_bx ren_bx3 rfl ?_ | refine kept_bx ren_bx1 rfl ?_ | exact ⟨_, rfl, ALe.refl⟩ | refine And.intro ?_ ?_))) ?_
    dsimp only [evB, zeroM]
    repeat' (first | refine o1 ?_ | refine o2 ?_ | refine k1 ?_ | refine k2 ?_ | refine k3 ?_ | refine k4 ?_ | refine k6 ?_ | refine k7 ?_ | refine k8 ?_ | refine And.intro ?_ ?_ | exact trivial | refine o3 ?_ | refine o4 ?_ | refine o5 ?_ | refine o6 ?_ | refine k5 ?_ | (intro h; first | exact Bool.noConfusion h | exact nz _ h | exact nl h | (simp at h; done) | (simp at h; first | (exfalso; omega) | skip) | skip) | (change retOk _ _ _ _; refine ret_pure rfl trivial ?_) | exact (rfl : allOne _ = true) | (refine (?_ : (0 : Int) ≤ _); omega) | (refine (?_ : _ ≠ _); omega) | (refine (?_ : srcLen _ = rowsLen _); rfl) | exact Nat.le_of_ble_eq_true rfl | exact (by kernel_rfl : drawOk _ _ = true) | refine eqv_len_map ?_ | refine eqv_size ?_ | refine eqv_put (eqv_ck ?_) | refine eqv_zero ?_ | refine eqv_wrap (by omega) (by omega) ?_ | refine eqv_u64 (by omega) (by omega) ?_ | refine eqv_u8 (by omega) (by omega) ?_ | refine eqv_to _ (set_map rfl rfl) ?_ | refine ⟨_, _, (by first | rfl | assumption), at_map (by assumption), ?_⟩ | refine ⟨_, _, (by first | rfl | assumption), (by assumption), ?_⟩ | refine ⟨_, at_map (by assumption), (by decide), ?_⟩ | refine ⟨_, at_map (by assumption), ?_⟩ | (refine (?_ : _ ≤ 140737488355328); simp [rowsLen] <;> omega) | (refine (?_ : _ ≤ 9223372036854775807); simp [rowsLen] <;> omega) | (refine (?_ : _ = rowsLen _); simp [rowsLen] <;> omega) | refine eqv_to _ (app_row rfl) (eqv_to _ app_len ?_) | refine eqv_to _ (app_first rfl) (eqv_to 1 rfl ?_) | refine idx_sl (at_map (by assumption)) (by omega) ?_ | refine idx_ms _ (by first | rfl | assumption) (by first | assumption | omega) ?_ | fail)
    refine loop_for (fun z : Nat × Nat × List Pair => [(0, .ptr 0 2 0 0), (2, vint .i64 R), (6, .ptr 1 4 0 0), (7, .ptr 2 4 0 0), (14, vint .i64 z.1)])
      (fun z => [dice t z.2.1, zeroM, evB (.pv (.sl 1 (C.map optsRow))) (slP 3 4 (z.2.2.map Pair.row)) nilA, obP 72 4 (z.2.2.map Pair.row)])
      (fun z => z.1 ≤ C.length ∧ z.2.1 ≤ t.length ∧ PrQ C 2 z.2.2 1 z.1 0) (fun z => C.length - z.1) (0, k, []) ⟨Nat.zero_le _, hk, ⟨fun i h => absurd h (Nat.not_lt_zero _), fun c h => absurd h List.not_mem_nil, by show 0 ≤ _; exact Nat.zero_le _⟩⟩ ?_ ?_
    · exact back [0, 1, 2, 3] rfl rfl (by repeat' (first | exact trivial | exact rfl | exact ren_get rfl | refine kept_ob rfl ?_ | refine kept_bx ren_bx0 rfl ?_ | refine kept_bx ren_bx3 rfl ?_ | refine kept_bx ren_bx1 rfl ?_ | exact ⟨_, rfl, ALe.refl⟩ | refine And.intro ?_ ?_)) (by repeat' (first | exact trivial | exact rfl | exact ren_get rfl | refine kept_ob rfl ?_ | refine kept_bx ren_bx0 rfl ?_ | refine kept_bx ren_bx3 rfl ?_ | refine kept_bx ren_bx1 rfl ?_ | exact ⟨_, rfl, ALe.refl⟩ | refine And.intro ?_ ?_))
    rintro ⟨i, k, P⟩ ⟨hi, hk, hP⟩
    dsimp only at hi hk hP ⊢
    dsimp only [evB, zeroM]
    rcases Nat.lt_or_ge i C.length with hil | hig
    · repeat' (first | (refine fv_sl ?_) | (refine fh_ob ?_) | refine o1 ?_ | refine o2 ?_ | refine k1 ?_ | refine k2 ?_ | refine k3 ?_ | refine k4 ?_ | refine k6 ?_ | refine k7 ?_ | refine k8 ?_ | refine And.intro ?_ ?_ | exact trivial | refine o3 ?_ | refine o4 ?_ | refine o5 ?_ | refine o6 ?_ | refine k5 ?_ | (intro h; first | exact Bool.noConfusion h | exact nz _ h | exact nl h | (simp at h; done) | (simp at h; first | (exfalso; omega) | skip) | skip) | (change retOk _ _ _ _; refine ret_pure rfl trivial ?_) | exact (rfl : allOne _ = true) | (refine (?_ : (0 : Int) ≤ _); omega) | (refine (?_ : _ ≠ _); omega) | (refine (?_ : srcLen _ = rowsLen _); rfl) | exact Nat.le_of_ble_eq_true rfl | exact (by kernel_rfl : drawOk _ _ = true) | refine eqv_len_map ?_ | refine eqv_size ?_ | refine eqv_put (eqv_ck ?_) | refine eqv_zero ?_ | refine eqv_wrap (by omega) (by omega) ?_ | refine eqv_u64 (by omega) (by omega) ?_ | refine eqv_u8 (by omega) (by omega) ?_ | refine eqv_to _ (set_map rfl rfl) ?_ | refine ⟨_, _, (by first | rfl | assumption), at_map (by assumption), ?_⟩ | refine ⟨_, _, (by first | rfl | assumption), (by assumption), ?_⟩ | refine ⟨_, at_map (by assumption), (by decide), ?_⟩ | refine ⟨_, at_map (by assumption), ?_⟩ | (refine (?_ : _ ≤ 140737488355328); simp [rowsLen] <;> omega) | (refine (?_ : _ ≤ 9223372036854775807); simp [rowsLen] <;> omega) | (refine (?_ : _ = rowsLen _); simp [rowsLen] <;> omega) | refine eqv_to _ (app_row rfl) (eqv_to _ app_len ?_) | refine eqv_to _ (app_first rfl) (eqv_to 1 rfl ?_) | refine idx_sl (at_map (by assumption)) (by omega) ?_ | refine idx_ms _ (by first | rfl | assumption) (by first | assumption | omega) ?_ | fail)
      refine loop_for (fun z : Nat × Nat × List Pair => [(0, .ptr 0 2 0 0), (2, vint .i64 R), (6, .ptr 1 4 0 0), (7, .ptr 2 4 0 0), (14, vint .i64 i), (15, vint .i64 z.1)])
        (fun z => [dice t z.2.1, zeroM, evB (.pv (.sl 1 (C.map optsRow))) (slP 3 4 (z.2.2.map Pair.row)) nilA, obP 72 4 (z.2.2.map Pair.row)])
        (fun z => i < z.1 ∧ z.1 ≤ C.length ∧ z.2.1 ≤ t.length ∧ PrQ C 2 z.2.2 1 i z.1) (fun z => C.length - z.1) (i + 1, k, P) ⟨Nat.lt_succ_self _, hil, hk, hP.toK⟩ ?_ ?_
      · refine back [0, 1, 2, 3] rfl rfl ?_ ?_
        · repeat' (first | exact trivial | exact rfl | exact ren_get rfl | refine kept_ob rfl ?_ | refine kept_bx ren_bx0 rfl ?_ | refine kept_bx ren_bx3 rfl ?_ | refine kept_bx ren_bx1 rfl ?_ | exact ⟨_, rfl, ALe.refl⟩ | refine And.intro ?_ ?_)
        · repeat' (first | exact trivial | exact rfl | exact ren_get rfl | refine kept_ob rfl ?_ | refine kept_bx ren_bx0 rfl ?_ | refine kept_bx ren_bx3 rfl ?_ | refine kept_bx ren_bx1 rfl ?_ | exact ⟨_, rfl, ALe.refl⟩ | refine And.intro ?_ ?_)
      rintro ⟨j, k, P⟩ ⟨hij, hj, hk, hj3⟩
      dsimp only at hij hj hk hj3 ⊢
      dsimp only [evB, zeroM]
      rcases Nat.lt_or_ge j C.length with hjl2 | hjg
      · rcases P with _ | ⟨p0, P⟩
        · skip
          have hjl := hj3.len
          skip
          obtain ⟨x, hx⟩ := getE hil
          obtain ⟨y, hy⟩ := getE hjl2
          have hX := hC x (List.mem_of_getElem? hx)
          have hY := hC y (List.mem_of_getElem? hy)
          have hb1 : ((List.map Pair.row (([] : List Pair))).length + 1) * 48 ≤ 140737488355328 := by rw [List.length_map]; omega
          have hb2 : (List.map Pair.row (([] : List Pair))).length + 1 ≤ 9223372036854775807 := by rw [List.length_map]; omega
          obtain ⟨TT, k', p1, p2, p3, hev⟩ := c_evenPairN t k ht hk C i j x y hx hy hX.le hY.le hX.day hY.day
          repeat' (first | (refine fv_sl ?_) | (refine fh_ob ?_) | ((change vcFunD _ _ _ _ _; refine callD_obj [0] [dice t k] [.ptr 0 2 0 0, .agg [.pv (.sl 1 (C.map optsRow)), nilA, nilA, vint .i64 2], vint .i64 i, vint .i64 j] rfl ⟨rfl, trivial⟩ rfl hev rfl ?_)) | ((refine o_appD (rows := List.map Pair.row (([] : List Pair))) rfl rfl rfl rfl rfl rfl rfl rfl rfl rfl rfl hb1 hb2 ?_)) | refine o1 ?_ | refine o2 ?_ | refine k1 ?_ | refine k2 ?_ | refine k3 ?_ | refine k4 ?_ | refine k6 ?_ | refine k7 ?_ | refine k8 ?_ | refine And.intro ?_ ?_ | exact trivial | refine o3 ?_ | refine o4 ?_ | refine o5 ?_ | refine o6 ?_ | refine k5 ?_ | (intro h; first | exact Bool.noConfusion h | exact nz _ h | exact nl h | (simp at h; done) | (simp at h; first | (exfalso; omega) | skip) | skip) | (change retOk _ _ _ _; refine ret_pure rfl trivial ?_) | exact (rfl : allOne _ = true) | (refine (?_ : (0 : Int) ≤ _); omega) | (refine (?_ : _ ≠ _); omega) | (refine (?_ : srcLen _ = rowsLen _); rfl) | exact Nat.le_of_ble_eq_true rfl | exact (by kernel_rfl : drawOk _ _ = true) | refine eqv_len_map ?_ | refine eqv_size ?_ | refine eqv_put (eqv_ck ?_) | refine eqv_zero ?_ | refine eqv_wrap (by omega) (by omega) ?_ | refine eqv_u64 (by omega) (by omega) ?_ | refine eqv_u8 (by omega) (by omega) ?_ | refine eqv_to _ (set_map rfl rfl) ?_ | refine ⟨_, _, (by first | rfl | assumption), at_map (by assumption), ?_⟩ | refine ⟨_, _, (by first | rfl | assumption), (by assumption), ?_⟩ | refine ⟨_, at_map (by assumption), (by decide), ?_⟩ | refine ⟨_, at_map (by assumption), ?_⟩ | (refine (?_ : _ ≤ 140737488355328); simp [rowsLen] <;> omega) | (refine (?_ : _ ≤ 9223372036854775807); simp [rowsLen] <;> omega) | (refine (?_ : _ = rowsLen _); simp [rowsLen] <;> omega) | refine eqv_to _ (app_row rfl) (eqv_to _ app_len ?_) | refine eqv_to _ (app_first rfl) (eqv_to 1 rfl ?_) | refine idx_sl (at_map (by assumption)) (by omega) ?_ | refine idx_ms _ (by first | rfl | assumption) (by first | assumption | omega) ?_ | fail)
          all_goals
            refine ⟨(j + 1, k', ([] : List Pair) ++ [⟨i, j, 1, TT⟩]), ⟨by dsimp only; omega, by dsimp only; omega, p1, hj3.app (pair_made hx hy hij (by decide) p2 p3)⟩, by dsimp only; omega, ?_⟩
            dsimp only
            rw [map_snoc, sl_app, ob_app]
            refine back [0, 1, 2, 5] rfl rfl ?_ ?_
            · repeat' (first | exact trivial | exact rfl | exact ren_get rfl | refine kept_ob rfl ?_ | refine kept_bx ren_bx0 rfl ?_ | refine kept_bx ren_bx3 rfl ?_ | refine kept_bx ren_bx1 rfl ?_ | exact ⟨_, rfl, ALe.refl⟩ | refine And.intro ?_ ?_)
            · repeat' (first | exact trivial | exact rfl | exact ren_get rfl | refine kept_ob rfl ?_ | refine kept_bx ren_bx0 rfl ?_ | refine kept_bx ren_bx3 rfl ?_ | refine kept_bx ren_bx1 rfl ?_ | exact ⟨_, rfl, ALe.refl⟩ | refine And.intro ?_ ?_)
        · skip
          have hjl := hj3.len
          skip
          obtain ⟨x, hx⟩ := getE hil
          obtain ⟨y, hy⟩ := getE hjl2
          have hX := hC x (List.mem_of_getElem? hx)
          have hY := hC y (List.mem_of_getElem? hy)
          have hb1 : ((List.map Pair.row (p0 :: P)).length + 1) * 48 ≤ 140737488355328 := by rw [List.length_map]; omega
          have hb2 : (List.map Pair.row (p0 :: P)).length + 1 ≤ 9223372036854775807 := by rw [List.length_map]; omega
          obtain ⟨TT, k', p1, p2, p3, hev⟩ := c_evenPairC t k ht hk C ((List.map Pair.row P).length + 1) (List.map Pair.row (p0 :: P)) i j x y hx hy hX.le hY.le hX.day hY.day
          repeat' (first | (refine fv_sl ?_) | (refine fh_ob ?_) | ((change vcFunD _ _ _ _ _; refine callD_obj [0, 3] [dice t k, some ⟨72, 4, false, .p (List.map Pair.row (p0 :: P))⟩] [.ptr 0 2 0 0, .agg [.pv (.sl 1 (C.map optsRow)), .ms 1 4 0 ((List.map Pair.row P).length + 1), nilA, vint .i64 2], vint .i64 i, vint .i64 j] rfl ⟨rfl, rfl, trivial⟩ rfl hev rfl ?_)) | ((refine o_appD (rows := List.map Pair.row (p0 :: P)) rfl rfl rfl rfl rfl rfl rfl rfl rfl rfl rfl hb1 hb2 ?_)) | refine o1 ?_ | refine o2 ?_ | refine k1 ?_ | refine k2 ?_ | refine k3 ?_ | refine k4 ?_ | refine k6 ?_ | refine k7 ?_ | refine k8 ?_ | refine And.intro ?_ ?_ | exact trivial | refine o3 ?_ | refine o4 ?_ | refine o5 ?_ | refine o6 ?_ | refine k5 ?_ | (intro h; first | exact Bool.noConfusion h | exact nz _ h | exact nl h | (simp at h; done) | (simp at h; first | (exfalso; omega) | skip) | skip) | (change retOk _ _ _ _; refine ret_pure rfl trivial ?_) | exact (rfl : allOne _ = true) | (refine (?_ : (0 : Int) ≤ _); omega) | (refine (?_ : _ ≠ _); omega) | (refine (?_ : srcLen _ = rowsLen _); rfl) | exact Nat.le_of_ble_eq_true rfl | exact (by kernel_rfl : drawOk _ _ = true) | refine eqv_len_map ?_ | refine eqv_size ?_ | refine eqv_put (eqv_ck ?_) | refine eqv_zero ?_ | refine eqv_wrap (by omega) (by omega) ?_ | refine eqv_u64 (by omega) (by omega) ?_ | refine eqv_u8 (by omega) (by omega) ?_ | refine eqv_to _ (set_map rfl rfl) ?_ | refine ⟨_, _, (by first | rfl | assumption), at_map (by assumption), ?_⟩ | refine ⟨_, _, (by first | rfl | assumption), (by assumption), ?_⟩ | refine ⟨_, at_map (by assumption), (by decide), ?_⟩ | refine ⟨_, at_map (by assumption), ?_⟩ | (refine (?_ : _ ≤ 140737488355328); simp [rowsLen] <;> omega) | (refine (?_ : _ ≤ 9223372036854775807); simp [rowsLen] <;> omega) | (refine (?_ : _ = rowsLen _); simp [rowsLen] <;> omega) | refine eqv_to _ (app_row rfl) (eqv_to _ app_len ?_) | refine eqv_to _ (app_first rfl) (eqv_to 1 rfl ?_) | refine idx_sl (at_map (by assumption)) (by omega) ?_ | refine idx_ms _ (by first | rfl | assumption) (by first | assumption | omega) ?_ | fail)
          all_goals
            refine ⟨(j + 1, k', (p0 :: P) ++ [⟨i, j, 1, TT⟩]), ⟨by dsimp only; omega, by dsimp only; omega, p1, hj3.app (pair_made hx hy hij (by decide) p2 p3)⟩, by dsimp only; omega, ?_⟩
            dsimp only
            rw [map_snoc, sl_app, ob_app]
            refine back [0, 1, 2, 5] rfl rfl ?_ ?_
            · repeat' (first | exact trivial | exact rfl | exact ren_get rfl | refine kept_ob rfl ?_ | refine kept_bx ren_bx0 rfl ?_ | refine kept_bx ren_bx3 rfl ?_ | refine kept_bx ren_bx1 rfl ?_ | exact ⟨_, rfl, ALe.refl⟩ | refine And.intro ?_ ?_)
            · repeat' (first | exact trivial | exact rfl | exact ren_get rfl | refine kept_ob rfl ?_ | refine kept_bx ren_bx0 rfl ?_ | refine kept_bx ren_bx3 rfl ?_ | refine kept_bx ren_bx1 rfl ?_ | exact ⟨_, rfl, ALe.refl⟩ | refine And.intro ?_ ?_)
      · obtain rfl : j = C.length := by omega
        repeat' (first | (refine fv_sl ?_) | (refine fh_ob ?_) | refine o1 ?_ | refine o2 ?_ | refine k1 ?_ | refine k2 ?_ | refine k3 ?_ | refine k4 ?_ | refine k6 ?_ | refine k7 ?_ | refine k8 ?_ | refine And.intro ?_ ?_ | exact trivial | refine o3 ?_ | refine o4 ?_ | refine o5 ?_ | refine o6 ?_ | refine k5 ?_ | (intro h; first | exact Bool.noConfusion h | exact nz _ h | exact nl h | (simp at h; done) | (simp at h; first | (exfalso; omega) | skip) | skip) | (change retOk _ _ _ _; refine ret_pure rfl trivial ?_) | exact (rfl : allOne _ = true) | (refine (?_ : (0 : Int) ≤ _); omega) | (refine (?_ : _ ≠ _); omega) | (refine (?_ : srcLen _ = rowsLen _); rfl) | exact Nat.le_of_ble_eq_true rfl | exact (by kernel_rfl : drawOk _ _ = true) | refine eqv_len_map ?_ | refine eqv_size ?_ | refine eqv_put (eqv_ck ?_) | refine eqv_zero ?_ | refine eqv_wrap (by omega) (by omega) ?_ | refine eqv_u64 (by omega) (by omega) ?_ | refine eqv_u8 (by omega) (by omega) ?_ | refine eqv_to _ (set_map rfl rfl) ?_ | refine ⟨_, _, (by first | rfl | assumption), at_map (by assumption), ?_⟩ | refine ⟨_, _, (by first | rfl | assumption), (by assumption), ?_⟩ | refine ⟨_, at_map (by assumption), (by decide), ?_⟩ | refine ⟨_, at_map (by assumption), ?_⟩ | (refine (?_ : _ ≤ 140737488355328); simp [rowsLen] <;> omega) | (refine (?_ : _ ≤ 9223372036854775807); simp [rowsLen] <;> omega) | (refine (?_ : _ = rowsLen _); simp [rowsLen] <;> omega) | refine eqv_to _ (app_row rfl) (eqv_to _ app_len ?_) | refine eqv_to _ (app_first rfl) (eqv_to 1 rfl ?_) | refine idx_sl (at_map (by assumption)) (by omega) ?_ | refine idx_ms _ (by first | rfl | assumption) (by first | assumption | omega) ?_ | fail)
        refine ⟨(i + 1, k, P), ⟨by dsimp only; omega, hk, hj3.toI (by omega)⟩, by dsimp only; omega, ?_⟩
        dsimp only
        refine back [0, 1, 2, 3] rfl rfl ?_ ?_
        · repeat' (first | exact trivial | exact rfl | exact ren_get rfl | refine kept_ob rfl ?_ | refine kept_bx ren_bx0 rfl ?_ | refine kept_bx ren_bx3 rfl ?_ | refine kept_bx ren_bx1 rfl ?_ | exact ⟨_, rfl, ALe.refl⟩ | refine And.intro ?_ ?_)
        · repeat' (first | exact trivial | exact rfl | exact ren_get rfl | refine kept_ob rfl ?_ | refine kept_bx ren_bx0 rfl ?_ | refine kept_bx ren_bx3 rfl ?_ | refine kept_bx ren_bx1 rfl ?_ | exact ⟨_, rfl, ALe.refl⟩ | refine And.intro ?_ ?_)
    · obtain rfl : i = C.length := by omega
      refine forceH_in ?_
      refine ghost_seq (Γ' := [(0, .ptr 0 2 0 0), (2, vint .i64 R), (6, .ptr 1 4 0 0), (7, .ptr 2 4 0 0), (14, vint .i64 C.length)]) (H' := [dice t k, zeroM, evB (.pv (.sl 1 (C.map optsRow))) (.pv (.sl 4 (P.map Pair.row))) nilA]) (Ghost.shut_sl (i := 2) (c := 1) (id := 3) rfl rfl rfl (by decide) fun H' hl h2 hH => back [0, 1, 2] rfl rfl ⟨hH 0 (by decide) (by decide), hH 1 (by decide) (by decide), h2, trivial⟩ (by repeat' (first | exact trivial | exact rfl | exact ren_get rfl | refine kept_ob rfl ?_ | refine kept_bx ren_bx0 rfl ?_ | refine kept_bx ren_bx3 rfl ?_ | refine kept_bx ren_bx1 rfl ?_ | exact ⟨_, rfl, ALe.refl⟩ | refine And.intro ?_ ?_))) ?_
      refine ghost_seq (Γ' := [(0, .ptr 0 2 0 0), (2, vint .i64 R), (6, .ptr 1 4 0 0), (7, .ptr 2 4 0 0), (14, vint .i64 C.length)]) (H' := [dice t k, zeroM, evB (.pv (.sl 1 (C.map optsRow))) (.pv (.sl 4 (P.map Pair.row))) (.pv (.sl 4 []))]) (Ghost.trans (Ghost.shut (i := 2) (c := 2) (x := .pv (.val (.slice none 0 0))) rfl rfl rfl (by repeat' (first | trivial | refine And.intro ?_ ?_ | (show 0 + _ ≤ List.length _; simp))) (show ¬ (2 ∈ ([] : List Nat)) by decide) (ALe.pv (PLe.nil (z := 4)))) (back [0, 1, 2] rfl rfl (by repeat' (first | exact trivial | exact rfl | exact ⟨_, rfl, ALe.refl⟩ | refine And.intro ?_ ?_)) (by repeat' (first | exact trivial | exact rfl | exact ⟨_, rfl, ALe.refl⟩ | refine And.intro ?_ ?_)))) ?_
      dsimp only [evB, zeroM]
      repeat' (first | ((change vcFun _ _ _ _ _; refine call_one (i := 0) rfl (fun _ _ => rfl) [.ptr 0 2 0 0, .agg [.pv (.sl 1 (C.map optsRow)), .pv (.sl 4 (P.map Pair.row)), .pv (.sl 4 []), vint .i64 2], vint .i64 R] rfl (c_evenCounts t kq ht hkq C (P.map Pair.row) R hR (by omega) fun l hl => (hC l hl).le) ?_; rintro r H' ⟨CS, kz, c1, c2, c3, rfl, rfl⟩; refine ⟨_, rfl, fun _ _ => rfl, fun _ _ => rfl, ?_⟩)) | refine o1 ?_ | refine o2 ?_ | refine k1 ?_ | refine k2 ?_ | refine k3 ?_ | refine k4 ?_ | refine k6 ?_ | refine k7 ?_ | refine k8 ?_ | refine And.intro ?_ ?_ | exact trivial | refine o3 ?_ | refine o4 ?_ | refine o5 ?_ | refine o6 ?_ | refine k5 ?_ | (intro h; first | exact Bool.noConfusion h | exact nz _ h | exact nl h | (simp at h; done) | (simp at h; first | (exfalso; omega) | skip) | skip) | (change retOk _ _ _ _; refine ret_pure rfl trivial ?_) | exact (rfl : allOne _ = true) | (refine (?_ : (0 : Int) ≤ _); omega) | (refine (?_ : _ ≠ _); omega) | (refine (?_ : srcLen _ = rowsLen _); rfl) | exact Nat.le_of_ble_eq_true rfl | exact (by kernel_rfl : drawOk _ _ = true) | refine eqv_len_map ?_ | refine eqv_size ?_ | refine eqv_put (eqv_ck ?_) | refine eqv_zero ?_ | refine eqv_wrap (by omega) (by omega) ?_ | refine eqv_u64 (by omega) (by omega) ?_ | refine eqv_u8 (by omega) (by omega) ?_ | refine eqv_to _ (set_map rfl rfl) ?_ | refine ⟨_, _, (by first | rfl | assumption), at_map (by assumption), ?_⟩ | refine ⟨_, _, (by first | rfl | assumption), (by assumption), ?_⟩ | refine ⟨_, at_map (by assumption), (by decide), ?_⟩ | refine ⟨_, at_map (by assumption), ?_⟩ | (refine (?_ : _ ≤ 140737488355328); simp [rowsLen] <;> omega) | (refine (?_ : _ ≤ 9223372036854775807); simp [rowsLen] <;> omega) | (refine (?_ : _ = rowsLen _); simp [rowsLen] <;> omega) | refine eqv_to _ (app_row rfl) (eqv_to _ app_len ?_) | refine eqv_to _ (app_first rfl) (eqv_to 1 rfl ?_) | refine idx_sl (at_map (by assumption)) (by omega) ?_ | refine idx_ms _ (by first | rfl | assumption) (by first | assumption | omega) ?_ | (change vcFun _ _ _ _ _; refine call_next 0 rfl (by assumption) (by assumption) (by omega) (by omega) ?_; intro v kq hv1 hv2 hkq) | (change vcFun _ _ _ _ _; refine call_one2 0 rfl (by assumption) (by assumption) (by omega) (by omega) ?_; intro bq kq hkq) | (change vcFunD _ _ _ _ _; refine callD_next 0 rfl (by assumption) (by assumption) (by omega) (by omega) ?_; intro v kq hv1 hv2 hkq) | (change vcFunD _ _ _ _ _; refine callD_one2 0 rfl (by assumption) (by assumption) (by omega) (by omega) ?_; intro bq kq hkq) | fail)
      all_goals try repeat' (first | refine o1 ?_ | refine o2 ?_ | refine k1 ?_ | refine k2 ?_ | refine k3 ?_ | refine k4 ?_ | refine k6 ?_ | refine k7 ?_ | refine k8 ?_ | refine And.intro ?_ ?_ | exact trivial | refine o3 ?_ | refine o4 ?_ | refine o5 ?_ | refine o6 ?_ | refine k5 ?_ | (intro h; first | exact Bool.noConfusion h | exact nz _ h | exact nl h | (simp at h; done) | (simp at h; first | (exfalso; omega) | skip) | skip) | (change retOk _ _ _ _; refine ret_pure rfl trivial ?_) | exact (rfl : allOne _ = true) | (refine (?_ : (0 : Int) ≤ _); omega) | (refine (?_ : _ ≠ _); omega) | (refine (?_ : srcLen _ = rowsLen _); rfl) | exact Nat.le_of_ble_eq_true rfl | exact (by kernel_rfl : drawOk _ _ = true) | refine eqv_len_map ?_ | refine eqv_size ?_ | refine eqv_put (eqv_ck ?_) | refine eqv_zero ?_ | refine eqv_wrap (by omega) (by omega) ?_ | refine eqv_u64 (by omega) (by omega) ?_ | refine eqv_u8 (by omega) (by omega) ?_ | refine eqv_to _ (set_map rfl rfl) ?_ | refine ⟨_, _, (by first | rfl | assumption), at_map (by assumption), ?_⟩ | refine ⟨_, _, (by first | rfl | assumption), (by assumption), ?_⟩ | refine ⟨_, at_map (by assumption), (by decide), ?_⟩ | refine ⟨_, at_map (by assumption), ?_⟩ | (refine (?_ : _ ≤ 140737488355328); simp [rowsLen] <;> omega) | (refine (?_ : _ ≤ 9223372036854775807); simp [rowsLen] <;> omega) | (refine (?_ : _ = rowsLen _); simp [rowsLen] <;> omega) | refine eqv_to _ (app_row rfl) (eqv_to _ app_len ?_) | refine eqv_to _ (app_first rfl) (eqv_to 1 rfl ?_) | refine idx_sl (at_map (by assumption)) (by omega) ?_ | refine idx_ms _ (by first | rfl | assumption) (by first | assumption | omega) ?_ | fail)
      · exact ret_obj [0] [dice t kz] rfl rfl ⟨rfl, trivial⟩ (r' := ag (Model.cells ⟨C, P, CS, 2⟩)) rfl ⟨⟨C, P, CS, 2⟩, kz, c1, ⟨even_of (by omega) hC hP c2 c3, by dsimp only; omega, rfl⟩, rfl, rfl⟩
      · exact ret_obj [0] [dice t kq] rfl rfl ⟨rfl, trivial⟩ (r' := ag (Model.cells ⟨C, P, [], 2⟩)) rfl ⟨⟨C, P, [], 2⟩, kq, hkq, ⟨even_of (by omega) hC hP (by decide) (fun c h => absurd h List.not_mem_nil), by dsimp only; omega, rfl⟩, rfl, rfl⟩
  repeat' (first | (refine fv_sl ?_) | (refine fh_ob ?_) | refine o1 ?_ | refine o2 ?_ | refine k1 ?_ | refine k2 ?_ | refine k3 ?_ | refine k4 ?_ | refine k6 ?_ | refine k7 ?_ | refine k8 ?_ | refine And.intro ?_ ?_ | exact trivial | refine o3 ?_ | refine o4 ?_ | refine o5 ?_ | refine o6 ?_ | refine k5 ?_ | (intro h; first | exact Bool.noConfusion h | exact nz _ h | exact nl h | (simp at h; done) | (simp at h; first | (exfalso; omega) | skip) | skip) | (change retOk _ _ _ _; refine ret_pure rfl trivial ?_) | exact (rfl : allOne _ = true) | (refine (?_ : (0 : Int) ≤ _); omega) | (refine (?_ : _ ≠ _); omega) | (refine (?_ : srcLen _ = rowsLen _); rfl) | exact Nat.le_of_ble_eq_true rfl | exact (by kernel_rfl : drawOk _ _ = true) | refine eqv_len_map ?_ | refine eqv_size ?_ | refine eqv_put (eqv_ck ?_) | refine eqv_zero ?_ | refine eqv_wrap (by omega) (by omega) ?_ | refine eqv_u64 (by omega) (by omega) ?_ | refine eqv_u8 (by omega) (by omega) ?_ | refine eqv_to _ (set_map rfl rfl) ?_ | refine ⟨_, _, (by first | rfl | assumption), at_map (by assumption), ?_⟩ | refine ⟨_, _, (by first | rfl | assumption), (by assumption), ?_⟩ | refine ⟨_, at_map (by assumption), (by decide), ?_⟩ | refine ⟨_, at_map (by assumption), ?_⟩ | (refine (?_ : _ ≤ 140737488355328); simp [rowsLen] <;> omega) | (refine (?_ : _ ≤ 9223372036854775807); simp [rowsLen] <;> omega) | (refine (?_ : _ = rowsLen _); simp [rowsLen] <;> omega) | refine eqv_to _ (app_row rfl) (eqv_to _ app_len ?_) | refine eqv_to _ (app_first rfl) (eqv_to 1 rfl ?_) | refine idx_sl (at_map (by assumption)) (by omega) ?_ | refine idx_ms _ (by first | rfl | assumption) (by first | assumption | omega) ?_ | (change vcFun _ _ _ _ _; refine call_next 0 rfl (by assumption) (by assumption) (by omega) (by omega) ?_; intro v kq hv1 hv2 hkq) | (change vcFun _ _ _ _ _; refine call_one2 0 rfl (by assumption) (by assumption) (by omega) (by omega) ?_; intro bq kq hkq) | (change vcFunD _ _ _ _ _; refine callD_next 0 rfl (by assumption) (by assumption) (by omega) (by omega) ?_; intro v kq hv1 hv2 hkq) | (change vcFunD _ _ _ _ _; refine callD_one2 0 rfl (by assumption) (by assumption) (by omega) (by omega) ?_; intro bq kq hkq) | fail)
  refine loop_for (fun z : Nat × Nat × List Opt => [(0, .ptr 0 2 0 0), (2, vint .i64 R), (6, .ptr 1 4 0 0), (7, .ptr 2 4 0 0), (8, vint .i64 n), (9, slP 4 6 (z.2.2.map Opt.row)), (10, vint .i64 z.1)])
    (fun z => [dice t z.2.1, zeroM, evB (slP 3 1 (C.map optsRow)) nilA nilA, obP 51 1 (C.map optsRow), obP 62 6 (z.2.2.map Opt.row)])
    (fun z => z.1 ≤ 2 ∧ z.2.1 ≤ t.length ∧ z.2.2.length ≤ z.1 * 3 ∧ (1 ≤ z.1 → 1 ≤ z.2.2.length) ∧ (∀ o ∈ z.2.2, o.place.time.day = 0 ∨ o.place.time.day = 1) ∧ ∀ o ∈ z.2.2, OptQ 2 o) (fun z => 2 - z.1) (0, k, []) ⟨Nat.zero_le _, hk, Nat.le_refl _, fun h => by dsimp only at h; omega, fun o h => absurd h List.not_mem_nil, fun o h => absurd h List.not_mem_nil⟩ ?_ ?_
  · exact back [0, 1, 2, 3, 4] rfl rfl (by repeat' (first | exact trivial | exact rfl | exact ren_get rfl | refine kept_ob rfl ?_ | refine kept_bx ren_bx0 rfl ?_ | refine kept_bx ren_bx3 rfl ?_ | refine kept_bx ren_bx1 rfl ?_ | exact ⟨_, rfl, ALe.refl⟩ | refine And.intro ?_ ?_)) (by repeat' (first | exact trivial | exact rfl | exact ren_get rfl | refine kept_ob rfl ?_ | refine kept_bx ren_bx0 rfl ?_ | refine kept_bx ren_bx3 rfl ?_ | refine kept_bx ren_bx1 rfl ?_ | exact ⟨_, rfl, ALe.refl⟩ | refine And.intro ?_ ?_))
  rintro ⟨tt, k, l⟩ ⟨htt, hk, hll, hl1, hld, hlc⟩
  dsimp only at htt hk hll hl1 hld hlc ⊢
  dsimp only [evB, zeroM]
  rcases Nat.lt_or_ge tt 2 with htl | htg
  · repeat' (first | ((change vcFun _ _ _ _ _; refine call_mcost 0 rfl (by assumption) (by assumption) ?_; intro cn kc hcn hkc)) | (refine fv_sl ?_) | (refine fh_ob ?_) | refine o1 ?_ | refine o2 ?_ | refine k1 ?_ | refine k2 ?_ | refine k3 ?_ | refine k4 ?_ | refine k6 ?_ | refine k7 ?_ | refine k8 ?_ | refine And.intro ?_ ?_ | exact trivial | refine o3 ?_ | refine o4 ?_ | refine o5 ?_ | refine o6 ?_ | refine k5 ?_ | (intro h; first | exact Bool.noConfusion h | exact nz _ h | exact nl h | (simp at h; done) | (simp at h; first | (exfalso; omega) | skip) | skip) | (change retOk _ _ _ _; refine ret_pure rfl trivial ?_) | exact (rfl : allOne _ = true) | (refine (?_ : (0 : Int) ≤ _); omega) | (refine (?_ : _ ≠ _); omega) | (refine (?_ : srcLen _ = rowsLen _); rfl) | exact Nat.le_of_ble_eq_true rfl | exact (by kernel_rfl : drawOk _ _ = true) | refine eqv_len_map ?_ | refine eqv_size ?_ | refine eqv_put (eqv_ck ?_) | refine eqv_zero ?_ | refine eqv_wrap (by omega) (by omega) ?_ | refine eqv_u64 (by omega) (by omega) ?_ | refine eqv_u8 (by omega) (by omega) ?_ | refine eqv_to _ (set_map rfl rfl) ?_ | refine ⟨_, _, (by first | rfl | assumption), at_map (by assumption), ?_⟩ | refine ⟨_, _, (by first | rfl | assumption), (by assumption), ?_⟩ | refine ⟨_, at_map (by assumption), (by decide), ?_⟩ | refine ⟨_, at_map (by assumption), ?_⟩ | (refine (?_ : _ ≤ 140737488355328); simp [rowsLen] <;> omega) | (refine (?_ : _ ≤ 9223372036854775807); simp [rowsLen] <;> omega) | (refine (?_ : _ = rowsLen _); simp [rowsLen] <;> omega) | refine eqv_to _ (app_row rfl) (eqv_to _ app_len ?_) | refine eqv_to _ (app_first rfl) (eqv_to 1 rfl ?_) | refine idx_sl (at_map (by assumption)) (by omega) ?_ | refine idx_ms _ (by first | rfl | assumption) (by first | assumption | omega) ?_ | (change vcFun _ _ _ _ _; refine call_next 0 rfl (by assumption) (by assumption) (by omega) (by omega) ?_; intro v kq hv1 hv2 hkq) | (change vcFun _ _ _ _ _; refine call_one2 0 rfl (by assumption) (by assumption) (by omega) (by omega) ?_; intro bq kq hkq) | (change vcFunD _ _ _ _ _; refine callD_next 0 rfl (by assumption) (by assumption) (by omega) (by omega) ?_; intro v kq hv1 hv2 hkq) | (change vcFunD _ _ _ _ _; refine callD_one2 0 rfl (by assumption) (by assumption) (by omega) (by omega) ?_; intro bq kq hkq) | fail)
    case' refine_1 => skip
    all_goals first
      | (exfalso; omega)
      | (refine ⟨(tt + 1, kq, l), ⟨by dsimp only; omega, hkq, by dsimp only; omega, fun _ => by dsimp only; exact hl1 (by omega), hld, hlc⟩, by dsimp only; omega, ?_⟩
         refine back [0, 1, 2, 3, 4] rfl rfl ?_ ?_
         · repeat' (first | exact trivial | exact rfl | exact ren_get rfl | refine kept_ob rfl ?_ | refine kept_bx ren_bx0 rfl ?_ | refine kept_bx ren_bx3 rfl ?_ | refine kept_bx ren_bx1 rfl ?_ | exact ⟨_, rfl, ALe.refl⟩ | refine And.intro ?_ ?_)
         · repeat' (first | exact trivial | exact rfl | exact ren_get rfl | refine kept_ob rfl ?_ | refine kept_bx ren_bx0 rfl ?_ | refine kept_bx ren_bx3 rfl ?_ | refine kept_bx ren_bx1 rfl ?_ | exact ⟨_, rfl, ALe.refl⟩ | refine And.intro ?_ ?_))
      | skip
    all_goals
      refine loop_for (fun z : Nat × List Opt => [(0, .ptr 0 2 0 0), (2, vint .i64 R), (6, .ptr 1 4 0 0), (7, .ptr 2 4 0 0), (8, vint .i64 n), (9, slP 4 6 (z.2.map Opt.row)), (10, vint .i64 tt), (11, vint .i64 cn), (12, vint .i64 z.1)])
        (fun z => [dice t kc, zeroM, evB (slP 3 1 (C.map optsRow)) nilA nilA, obP 51 1 (C.map optsRow), obP 62 6 (z.2.map Opt.row)])
        (fun z => z.1 ≤ R ∧ z.2.length ≤ tt * 3 + z.1 ∧ (1 ≤ tt + z.1 → 1 ≤ z.2.length) ∧ (∀ o ∈ z.2, o.place.time.day = 0 ∨ o.place.time.day = 1) ∧ ∀ o ∈ z.2, OptQ 2 o) (fun z => R - z.1) (0, l) ⟨Nat.zero_le _, hll, hl1, hld, hlc⟩ ?_ ?_
      · refine back [0, 1, 2, 3, 4] rfl rfl ?_ ?_
        · repeat' (first | exact trivial | exact rfl | exact ren_get rfl | refine kept_ob rfl ?_ | refine kept_bx ren_bx0 rfl ?_ | refine kept_bx ren_bx3 rfl ?_ | refine kept_bx ren_bx1 rfl ?_ | exact ⟨_, rfl, ALe.refl⟩ | refine And.intro ?_ ?_)
        · repeat' (first | exact trivial | exact rfl | exact ren_get rfl | refine kept_ob rfl ?_ | refine kept_bx ren_bx0 rfl ?_ | refine kept_bx ren_bx3 rfl ?_ | refine kept_bx ren_bx1 rfl ?_ | exact ⟨_, rfl, ALe.refl⟩ | refine And.intro ?_ ?_)
      rintro ⟨r, l⟩ ⟨hr, hll, hl1, hld, hlc⟩
      dsimp only at hr hll hl1 hld hlc ⊢
      dsimp only [evB, zeroM]
      rcases Nat.lt_or_ge r R with hrl | hrg
      · have hb1 : ((l.map Opt.row).length + 1) * 64 ≤ 140737488355328 := by rw [List.length_map]; omega
        have hb2 : (l.map Opt.row).length + 1 ≤ 9223372036854775807 := by rw [List.length_map]; omega
        repeat' (first | (refine fv_sl ?_) | (refine fh_ob ?_) | (refine join_in (a := .seq (.region 15 _ _) _) (fun _ => []) (fun x : List Charge => [dice t kc, zeroM, evB (slP 3 1 (C.map optsRow)) nilA nilA, obP 51 1 (C.map optsRow), obP 62 6 (l.map Opt.row), ob6 tt r (.pv (.sl 2 (x.map Charge.row)))]) (fun x => OptQ 2 ⟨⟨⟨1, tt, 0, 1⟩, r⟩, x⟩) ?_) | ((refine o_app rfl rfl rfl rfl rfl rfl rfl rfl rfl rfl rfl hb1 hb2 ?_)) | refine o1 ?_ | refine o2 ?_ | refine k1 ?_ | refine k2 ?_ | refine k3 ?_ | refine k4 ?_ | refine k6 ?_ | refine k7 ?_ | refine k8 ?_ | refine And.intro ?_ ?_ | exact trivial | refine o3 ?_ | refine o4 ?_ | refine o5 ?_ | refine o6 ?_ | refine k5 ?_ | (intro h; first | exact Bool.noConfusion h | exact nz _ h | exact nl h | (simp at h; done) | (simp at h; first | (exfalso; omega) | skip) | skip) | (change retOk _ _ _ _; refine ret_pure rfl trivial ?_) | exact (rfl : allOne _ = true) | (refine (?_ : (0 : Int) ≤ _); omega) | (refine (?_ : _ ≠ _); omega) | (refine (?_ : srcLen _ = rowsLen _); rfl) | exact Nat.le_of_ble_eq_true rfl | exact (by kernel_rfl : drawOk _ _ = true) | refine eqv_len_map ?_ | refine eqv_size ?_ | refine eqv_put (eqv_ck ?_) | refine eqv_zero ?_ | refine eqv_wrap (by omega) (by omega) ?_ | refine eqv_u64 (by omega) (by omega) ?_ | refine eqv_u8 (by omega) (by omega) ?_ | refine eqv_to _ (set_map rfl rfl) ?_ | refine ⟨_, _, (by first | rfl | assumption), at_map (by assumption), ?_⟩ | refine ⟨_, _, (by first | rfl | assumption), (by assumption), ?_⟩ | refine ⟨_, at_map (by assumption), (by decide), ?_⟩ | refine ⟨_, at_map (by assumption), ?_⟩ | (refine (?_ : _ ≤ 140737488355328); simp [rowsLen] <;> omega) | (refine (?_ : _ ≤ 9223372036854775807); simp [rowsLen] <;> omega) | (refine (?_ : _ = rowsLen _); simp [rowsLen] <;> omega) | refine eqv_to _ (app_row rfl) (eqv_to _ app_len ?_) | refine eqv_to _ (app_first rfl) (eqv_to 1 rfl ?_) | refine idx_sl (at_map (by assumption)) (by omega) ?_ | refine idx_ms _ (by first | rfl | assumption) (by first | assumption | omega) ?_ | fail)
        · refine ⟨[⟨0, cn⟩], ch_one (hcn.elim (fun h => by omega) id), Ghost.trans (Ghost.shut (i := 5) (c := 5) (x := .ms 6 2 0 1) rfl rfl rfl (by repeat' (first | trivial | refine And.intro ?_ ?_ | (show 0 + _ ≤ List.length _; simp))) (show ¬ (5 ∈ ([6] : List Nat)) by decide) (ALe.pv (whole_le (f := Charge.row) (l := [⟨0, cn⟩]) (by simp)))) (back [0, 1, 2, 3, 4, 5] rfl rfl ?_ ?_)⟩
          · repeat' (first | exact trivial | exact rfl | exact ren_get rfl | refine kept_ob rfl ?_ | refine kept_bx ren_bx0 rfl ?_ | refine kept_bx ren_bx3 rfl ?_ | refine kept_bx ren_bx1 rfl ?_ | exact ⟨_, rfl, ALe.refl⟩ | refine And.intro ?_ ?_)
          · repeat' (first | exact trivial | exact rfl | exact ren_get rfl | refine kept_ob rfl ?_ | refine kept_bx ren_bx0 rfl ?_ | refine kept_bx ren_bx3 rfl ?_ | refine kept_bx ren_bx1 rfl ?_ | exact ⟨_, rfl, ALe.refl⟩ | refine And.intro ?_ ?_)
        · refine ⟨[], ch_nil, Ghost.trans (Ghost.shut (i := 5) (c := 5) (x := .pv (.val (.slice none 0 0))) rfl rfl rfl (by repeat' (first | trivial | refine And.intro ?_ ?_ | (show 0 + _ ≤ List.length _; simp))) (show ¬ (5 ∈ ([] : List Nat)) by decide) (ALe.pv (PLe.nil (z := 2)))) (back [0, 1, 2, 3, 4, 5] rfl rfl ?_ ?_)⟩
          · repeat' (first | exact trivial | exact rfl | exact ren_get rfl | refine kept_ob rfl ?_ | refine kept_bx ren_bx0 rfl ?_ | refine kept_bx ren_bx3 rfl ?_ | refine kept_bx ren_bx1 rfl ?_ | exact ⟨_, rfl, ALe.refl⟩ | refine And.intro ?_ ?_)
          · repeat' (first | exact trivial | exact rfl | exact ren_get rfl | refine kept_ob rfl ?_ | refine kept_bx ren_bx0 rfl ?_ | refine kept_bx ren_bx3 rfl ?_ | refine kept_bx ren_bx1 rfl ?_ | exact ⟨_, rfl, ALe.refl⟩ | refine And.intro ?_ ?_)
        refine ⟨?_⟩
        intro x hx
        dsimp only [zeroM, evB, ob6]
        repeat' (first | (refine fv_sl ?_) | (refine fh_ob ?_) | ((refine o_app rfl rfl rfl rfl rfl rfl rfl rfl rfl rfl rfl hb1 hb2 ?_)) | refine o1 ?_ | refine o2 ?_ | refine k1 ?_ | refine k2 ?_ | refine k3 ?_ | refine k4 ?_ | refine k6 ?_ | refine k7 ?_ | refine k8 ?_ | refine And.intro ?_ ?_ | exact trivial | refine o3 ?_ | refine o4 ?_ | refine o5 ?_ | refine o6 ?_ | refine k5 ?_ | (intro h; first | exact Bool.noConfusion h | exact nz _ h | exact nl h | (simp at h; done) | (simp at h; first | (exfalso; omega) | skip) | skip) | (change retOk _ _ _ _; refine ret_pure rfl trivial ?_) | exact (rfl : allOne _ = true) | (refine (?_ : (0 : Int) ≤ _); omega) | (refine (?_ : _ ≠ _); omega) | (refine (?_ : srcLen _ = rowsLen _); rfl) | exact Nat.le_of_ble_eq_true rfl | exact (by kernel_rfl : drawOk _ _ = true) | refine eqv_len_map ?_ | refine eqv_size ?_ | refine eqv_put (eqv_ck ?_) | refine eqv_zero ?_ | refine eqv_wrap (by omega) (by omega) ?_ | refine eqv_u64 (by omega) (by omega) ?_ | refine eqv_u8 (by omega) (by omega) ?_ | refine eqv_to _ (set_map rfl rfl) ?_ | refine ⟨_, _, (by first | rfl | assumption), at_map (by assumption), ?_⟩ | refine ⟨_, _, (by first | rfl | assumption), (by assumption), ?_⟩ | refine ⟨_, at_map (by assumption), (by decide), ?_⟩ | refine ⟨_, at_map (by assumption), ?_⟩ | (refine (?_ : _ ≤ 140737488355328); simp [rowsLen] <;> omega) | (refine (?_ : _ ≤ 9223372036854775807); simp [rowsLen] <;> omega) | (refine (?_ : _ = rowsLen _); simp [rowsLen] <;> omega) | refine eqv_to _ (app_row rfl) (eqv_to _ app_len ?_) | refine eqv_to _ (app_first rfl) (eqv_to 1 rfl ?_) | refine idx_sl (at_map (by assumption)) (by omega) ?_ | refine idx_ms _ (by first | rfl | assumption) (by first | assumption | omega) ?_ | fail)
        refine ⟨(r + 1, l ++ [⟨⟨⟨1, tt, 0, 1⟩, r⟩, x⟩]), ⟨by dsimp only; omega, by dsimp only; rw [List.length_append]; simp only [List.length_cons, List.length_nil]; omega, fun _ => by dsimp only; rw [List.length_append]; simp only [List.length_cons, List.length_nil]; omega, all_app (p := fun o : Opt => o.place.time.day = 0 ∨ o.place.time.day = 1) hld (by dsimp only; omega), all_app hlc hx⟩, by dsimp only; omega, ?_⟩
        dsimp only
        rw [map_snoc, sl_app, ob_app]
        refine back [0, 1, 2, 3, 7] rfl rfl ?_ ?_
        · repeat' (first | exact trivial | exact rfl | exact ren_get rfl | refine kept_ob rfl ?_ | refine kept_bx ren_bx0 rfl ?_ | refine kept_bx ren_bx3 rfl ?_ | refine kept_bx ren_bx1 rfl ?_ | exact ⟨_, rfl, ALe.refl⟩ | refine And.intro ?_ ?_)
        · repeat' (first | exact trivial | exact rfl | exact ren_get rfl | refine kept_ob rfl ?_ | refine kept_bx ren_bx0 rfl ?_ | refine kept_bx ren_bx3 rfl ?_ | refine kept_bx ren_bx1 rfl ?_ | exact ⟨_, rfl, ALe.refl⟩ | refine And.intro ?_ ?_)
      · obtain rfl : r = R := by omega
        repeat' (first | (refine fv_sl ?_) | (refine fh_ob ?_) | refine o1 ?_ | refine o2 ?_ | refine k1 ?_ | refine k2 ?_ | refine k3 ?_ | refine k4 ?_ | refine k6 ?_ | refine k7 ?_ | refine k8 ?_ | refine And.intro ?_ ?_ | exact trivial | refine o3 ?_ | refine o4 ?_ | refine o5 ?_ | refine o6 ?_ | refine k5 ?_ | (intro h; first | exact Bool.noConfusion h | exact nz _ h | exact nl h | (simp at h; done) | (simp at h; first | (exfalso; omega) | skip) | skip) | (change retOk _ _ _ _; refine ret_pure rfl trivial ?_) | exact (rfl : allOne _ = true) | (refine (?_ : (0 : Int) ≤ _); omega) | (refine (?_ : _ ≠ _); omega) | (refine (?_ : srcLen _ = rowsLen _); rfl) | exact Nat.le_of_ble_eq_true rfl | exact (by kernel_rfl : drawOk _ _ = true) | refine eqv_len_map ?_ | refine eqv_size ?_ | refine eqv_put (eqv_ck ?_) | refine eqv_zero ?_ | refine eqv_wrap (by omega) (by omega) ?_ | refine eqv_u64 (by omega) (by omega) ?_ | refine eqv_u8 (by omega) (by omega) ?_ | refine eqv_to _ (set_map rfl rfl) ?_ | refine ⟨_, _, (by first | rfl | assumption), at_map (by assumption), ?_⟩ | refine ⟨_, _, (by first | rfl | assumption), (by assumption), ?_⟩ | refine ⟨_, at_map (by assumption), (by decide), ?_⟩ | refine ⟨_, at_map (by assumption), ?_⟩ | (refine (?_ : _ ≤ 140737488355328); simp [rowsLen] <;> omega) | (refine (?_ : _ ≤ 9223372036854775807); simp [rowsLen] <;> omega) | (refine (?_ : _ = rowsLen _); simp [rowsLen] <;> omega) | refine eqv_to _ (app_row rfl) (eqv_to _ app_len ?_) | refine eqv_to _ (app_first rfl) (eqv_to 1 rfl ?_) | refine idx_sl (at_map (by assumption)) (by omega) ?_ | refine idx_ms _ (by first | rfl | assumption) (by first | assumption | omega) ?_ | fail)
        refine ⟨(tt + 1, kc, l), ⟨by dsimp only; omega, hkc, by dsimp only; omega, fun _ => by dsimp only; exact hl1 (by omega), hld, hlc⟩, by dsimp only; omega, ?_⟩
        dsimp only
        refine back [0, 1, 2, 3, 4] rfl rfl ?_ ?_
        · repeat' (first | exact trivial | exact rfl | exact ren_get rfl | refine kept_ob rfl ?_ | refine kept_bx ren_bx0 rfl ?_ | refine kept_bx ren_bx3 rfl ?_ | refine kept_bx ren_bx1 rfl ?_ | exact ⟨_, rfl, ALe.refl⟩ | refine And.intro ?_ ?_)
        · repeat' (first | exact trivial | exact rfl | exact ren_get rfl | refine kept_ob rfl ?_ | refine kept_bx ren_bx0 rfl ?_ | refine kept_bx ren_bx3 rfl ?_ | refine kept_bx ren_bx1 rfl ?_ | exact ⟨_, rfl, ALe.refl⟩ | refine And.intro ?_ ?_)
  obtain rfl : tt = 2 := by omega
  have hb1 : ((l.map Opt.row).length + 1) * 64 ≤ 140737488355328 := by rw [List.length_map]; omega
  have hb2 : (l.map Opt.row).length + 1 ≤ 9223372036854775807 := by rw [List.length_map]; omega
  have hb3 : ((C.map optsRow).length + 1) * 24 ≤ 140737488355328 := by rw [List.length_map]; omega
  have hb4 : (C.map optsRow).length + 1 ≤ 9223372036854775807 := by rw [List.length_map]; omega
  repeat' (first | (refine fv_sl ?_) | (refine fh_ob ?_) | (refine join_in (a := .seq (.region 18 _ _) _) (fun x : Nat × List Opt => [(9, .pv (.sl 6 (x.2.map Opt.row)))]) (fun x => [dice t x.1, zeroM, evB (slP 3 1 (C.map optsRow)) nilA nilA, obP 51 1 (C.map optsRow)]) (fun x => x.1 ≤ t.length ∧ EvL x.2) ?_) | ((refine o_app rfl rfl rfl rfl rfl rfl rfl rfl rfl rfl rfl hb1 hb2 ?_)) | refine o1 ?_ | refine o2 ?_ | refine k1 ?_ | refine k2 ?_ | refine k3 ?_ | refine k4 ?_ | refine k6 ?_ | refine k7 ?_ | refine k8 ?_ | refine And.intro ?_ ?_ | exact trivial | refine o3 ?_ | refine o4 ?_ | refine o5 ?_ | refine o6 ?_ | refine k5 ?_ | (intro h; first | exact Bool.noConfusion h | exact nz _ h | exact nl h | (simp at h; done) | (simp at h; first | (exfalso; omega) | skip) | skip) | (change retOk _ _ _ _; refine ret_pure rfl trivial ?_) | exact (rfl : allOne _ = true) | (refine (?_ : (0 : Int) ≤ _); omega) | (refine (?_ : _ ≠ _); omega) | (refine (?_ : srcLen _ = rowsLen _); rfl) | exact Nat.le_of_ble_eq_true rfl | exact (by kernel_rfl : drawOk _ _ = true) | refine eqv_len_map ?_ | refine eqv_size ?_ | refine eqv_put (eqv_ck ?_) | refine eqv_zero ?_ | refine eqv_wrap (by omega) (by omega) ?_ | refine eqv_u64 (by omega) (by omega) ?_ | refine eqv_u8 (by omega) (by omega) ?_ | refine eqv_to _ (set_map rfl rfl) ?_ | refine ⟨_, _, (by first | rfl | assumption), at_map (by assumption), ?_⟩ | refine ⟨_, _, (by first | rfl | assumption), (by assumption), ?_⟩ | refine ⟨_, at_map (by assumption), (by decide), ?_⟩ | refine ⟨_, at_map (by assumption), ?_⟩ | (refine (?_ : _ ≤ 140737488355328); simp [rowsLen] <;> omega) | (refine (?_ : _ ≤ 9223372036854775807); simp [rowsLen] <;> omega) | (refine (?_ : _ = rowsLen _); simp [rowsLen] <;> omega) | refine eqv_to _ (app_row rfl) (eqv_to _ app_len ?_) | refine eqv_to _ (app_first rfl) (eqv_to 1 rfl ?_) | refine idx_sl (at_map (by assumption)) (by omega) ?_ | refine idx_ms _ (by first | rfl | assumption) (by first | assumption | omega) ?_ | (change vcFun _ _ _ _ _; refine call_next 0 rfl (by assumption) (by assumption) (by omega) (by omega) ?_; intro v kq hv1 hv2 hkq) | (change vcFun _ _ _ _ _; refine call_one2 0 rfl (by assumption) (by assumption) (by omega) (by omega) ?_; intro bq kq hkq) | (change vcFunD _ _ _ _ _; refine callD_next 0 rfl (by assumption) (by assumption) (by omega) (by omega) ?_; intro v kq hv1 hv2 hkq) | (change vcFunD _ _ _ _ _; refine callD_one2 0 rfl (by assumption) (by assumption) (by omega) (by omega) ?_; intro bq kq hkq) | fail)
  · refine ⟨(kq, l ++ [⟨⟨⟨2, 0, 0, 1⟩, -1⟩, []⟩]), ⟨hkq, ⟨by dsimp only; rw [List.length_append]; simp only [List.length_cons, List.length_nil]; omega, by dsimp only; rw [List.length_append]; simp only [List.length_cons, List.length_nil]; omega, all_app (p := fun o : Opt => o.place.time.day = 0 ∨ o.place.time.day = 1) hld (.inl rfl), all_app hlc ch_nil⟩⟩, Ghost.sl (s := 9) (id := 6) (rows := l.map Opt.row ++ [[ei 2, ei 0, ei 0, ei 1, ei (-1), .val (.slice none 0 0)]]) (by rw [sl_app]; rfl) (by rw [ob_app]; rfl) fun H' hl hH => Ghost.trans (Ghost.weak (s := 9) (y := .pv (.sl 6 (l.map Opt.row ++ [Opt.row ⟨⟨⟨2, 0, 0, 1⟩, -1⟩, []⟩]))) rfl (ALe.pv (PLe.sl (PLeLL.app PLeLL.refl ⟨⟨PLe.refl, PLe.refl, PLe.refl, PLe.refl, PLe.refl, PLe.nil, trivial⟩, trivial⟩)))) ?_⟩
    dsimp only
    rw [map_snoc]
    refine back [0, 1, 2, 3] rfl rfl ⟨hH 0 (by decide), hH 1 (by decide), kept_bx ren_bx0 (hH 2 (by decide)) (kept_ob (hH 3 (by decide)) trivial)⟩ ?_
    repeat' (first | exact trivial | exact rfl | exact ren_get rfl | refine kept_ob rfl ?_ | refine kept_bx ren_bx0 rfl ?_ | refine kept_bx ren_bx3 rfl ?_ | refine kept_bx ren_bx1 rfl ?_ | exact ⟨_, rfl, ALe.refl⟩ | refine And.intro ?_ ?_)
  · refine ⟨(kq, l), ⟨hkq, ⟨by dsimp only; omega, by dsimp only; exact hl1 (by omega), hld, hlc⟩⟩, Ghost.sl (s := 9) (id := 4) (rows := l.map Opt.row) rfl rfl fun H' hl hH => ?_⟩
    refine back [0, 1, 2, 3] rfl rfl ⟨hH 0 (by decide), hH 1 (by decide), kept_bx ren_bx0 (hH 2 (by decide)) (kept_ob (hH 3 (by decide)) trivial)⟩ ?_
    repeat' (first | exact trivial | exact rfl | exact ren_get rfl | refine kept_ob rfl ?_ | refine kept_bx ren_bx0 rfl ?_ | refine kept_bx ren_bx3 rfl ?_ | refine kept_bx ren_bx1 rfl ?_ | exact ⟨_, rfl, ALe.refl⟩ | refine And.intro ?_ ?_)
  refine ⟨?_⟩
  rintro ⟨k, l⟩ ⟨hk, hl⟩
  dsimp only at hk hl ⊢
  dsimp only [zeroM, evB]
  repeat' (first | (refine fv_sl ?_) | (refine fh_ob ?_) | ((refine o_app rfl rfl rfl rfl rfl rfl rfl rfl rfl rfl rfl hb3 hb4 ?_)) | refine o1 ?_ | refine o2 ?_ | refine k1 ?_ | refine k2 ?_ | refine k3 ?_ | refine k4 ?_ | refine k6 ?_ | refine k7 ?_ | refine k8 ?_ | refine And.intro ?_ ?_ | exact trivial | refine o3 ?_ | refine o4 ?_ | refine o5 ?_ | refine o6 ?_ | refine k5 ?_ | (intro h; first | exact Bool.noConfusion h | exact nz _ h | exact nl h | (simp at h; done) | (simp at h; first | (exfalso; omega) | skip) | skip) | (change retOk _ _ _ _; refine ret_pure rfl trivial ?_) | exact (rfl : allOne _ = true) | (refine (?_ : (0 : Int) ≤ _); omega) | (refine (?_ : _ ≠ _); omega) | (refine (?_ : srcLen _ = rowsLen _); rfl) | exact Nat.le_of_ble_eq_true rfl | exact (by kernel_rfl : drawOk _ _ = true) | refine eqv_len_map ?_ | refine eqv_size ?_ | refine eqv_put (eqv_ck ?_) | refine eqv_zero ?_ | refine eqv_wrap (by omega) (by omega) ?_ | refine eqv_u64 (by omega) (by omega) ?_ | refine eqv_u8 (by omega) (by omega) ?_ | refine eqv_to _ (set_map rfl rfl) ?_ | refine ⟨_, _, (by first | rfl | assumption), at_map (by assumption), ?_⟩ | refine ⟨_, _, (by first | rfl | assumption), (by assumption), ?_⟩ | refine ⟨_, at_map (by assumption), (by decide), ?_⟩ | refine ⟨_, at_map (by assumption), ?_⟩ | (refine (?_ : _ ≤ 140737488355328); simp [rowsLen] <;> omega) | (refine (?_ : _ ≤ 9223372036854775807); simp [rowsLen] <;> omega) | (refine (?_ : _ = rowsLen _); simp [rowsLen] <;> omega) | refine eqv_to _ (app_row rfl) (eqv_to _ app_len ?_) | refine eqv_to _ (app_first rfl) (eqv_to 1 rfl ?_) | refine idx_sl (at_map (by assumption)) (by omega) ?_ | refine idx_ms _ (by first | rfl | assumption) (by first | assumption | omega) ?_ | fail)
  refine ⟨(n - 1, k, C ++ [l]), ⟨by dsimp only; rw [List.length_append]; simp only [List.length_cons, List.length_nil]; omega, hk, all_app hC hl⟩, by dsimp only; omega, ?_⟩
  dsimp only
  rw [map_snoc, sl_app, ob_app]
  refine back [0, 1, 2, 5] rfl rfl ?_ ⟨rfl, rfl, rfl, rfl, slot_eq rfl (congrArg (vint .i64) (by show _ = ((n - 1 : Nat) : Int); omega)), trivial⟩
  repeat' (first | exact trivial | exact rfl | exact ren_get rfl | refine kept_ob rfl ?_ | refine kept_bx ren_bx0 rfl ?_ | refine kept_bx ren_bx3 rfl ?_ | refine kept_bx ren_bx1 rfl ?_ | exact ⟨_, rfl, ALe.refl⟩ | refine And.intro ?_ ?_)
end Go.Proofs.YtihpjcmloecaaaaGreat.Cw
/-
  Made plans.
-/
namespace Go.Proofs.YtihpjcmloecaaaaGreat.Cw
open Go.Cw Go.Proofs
set_option linter.unusedVariables false
set_option maxRecDepth 100000
set_option maxHeartbeats 1600000
structure PlQ (m : Model) (full : Bool) (l : List Int) (n : Nat) : Prop where
  len : l.length = n
  at_ : ∀ i, i < n → ∀ o, l[i]? = some o → ∀ c, m.classes[i]? = some c → (full = true → 0 ≤ o) ∧ o < c.length
end Go.Proofs.YtihpjcmloecaaaaGreat.Cw
/-
  Odd models.
-/
namespace Go.Proofs.YtihpjcmloecaaaaGreat.Cw
open Go.Cw Go.Proofs
set_option linter.unusedVariables false
set_option maxRecDepth 100000
set_option maxHeartbeats 30000000
def YY {α : Type} (_ : α) : Prop := True
def OptL (o : Opt) : Prop := o.charges.length ≤ 9223372036854775807
def ClsL (l : List Opt) : Prop := l.length ≤ 1000 ∧ ∀ o ∈ l, OptL o
def CntL (c : Count) : Prop := c.loads.length ≤ 9223372036854775807
def eI (n : Int) : List PV := [ei n]
section
variable {a b c d e : Int} {p : PV} {n : Nat}
end
structure LaidX (y : Model) : Prop where
  laid : Laid y
  cn : y.classes.length ≤ 1000
  on : ∀ l ∈ y.classes, l.length ≤ 1000
end Go.Proofs.YtihpjcmloecaaaaGreat.Cw
/-
  Odd models: no pairs, no counts.
-/
namespace Go.Proofs.YtihpjcmloecaaaaGreat.Cw
open Go.Cw Go.Proofs
set_option linter.unusedVariables false
set_option maxRecDepth 100000
set_option maxHeartbeats 30000000
end Go.Proofs.YtihpjcmloecaaaaGreat.Cw
/-
  Odd models: no pairs.
-/
namespace Go.Proofs.YtihpjcmloecaaaaGreat.Cw
open Go.Cw Go.Proofs
set_option linter.unusedVariables false
set_option maxRecDepth 100000
set_option maxHeartbeats 30000000
end Go.Proofs.YtihpjcmloecaaaaGreat.Cw
/-
  Odd models: no counts.
-/
namespace Go.Proofs.YtihpjcmloecaaaaGreat.Cw
open Go.Cw Go.Proofs
set_option linter.unusedVariables false
set_option maxRecDepth 100000
set_option maxHeartbeats 30000000
end Go.Proofs.YtihpjcmloecaaaaGreat.Cw
/-
  Odd models: pairs and counts.
-/
namespace Go.Proofs.YtihpjcmloecaaaaGreat.Cw
open Go.Cw Go.Proofs
set_option linter.unusedVariables false
set_option maxRecDepth 100000
set_option maxHeartbeats 30000000
end Go.Proofs.YtihpjcmloecaaaaGreat.Cw
/-
  Odd models: all ways together.
-/
namespace Go.Proofs.YtihpjcmloecaaaaGreat.Cw
open Go.Cw Go.Proofs
set_option linter.unusedVariables false
set_option maxRecDepth 100000
end Go.Proofs.YtihpjcmloecaaaaGreat.Cw
/-
  Symmetry: the models of the laws.
-/
namespace Go.Proofs.YtihpjcmloecaaaaGreat.Cw
open Go Go.Cw Go.Proofs
set_option linter.unusedVariables false
set_option maxRecDepth 100000
set_option maxHeartbeats 8000000
end Go.Proofs.YtihpjcmloecaaaaGreat.Cw
/-
  Symmetry: the least plan that arises from a plan (reference's side).
-/
namespace Go.Proofs.YtihpjcmloecaaaaGreat.Cw
open Go Go.Cw Go.Proofs
set_option linter.unusedVariables false
set_option maxRecDepth 100000
set_option maxHeartbeats 8000000
def bI (s : List Int) (b : Int) : Int := if b < 0 then -1 else plI s b
end Go.Proofs.YtihpjcmloecaaaaGreat.Cw
/-
  Symmetry: plans by dice, of any model; the reference's plans.
-/
namespace Go.Proofs.YtihpjcmloecaaaaGreat.Cw
open Go Go.Cw Go.Proofs
set_option linter.unusedVariables false
set_option maxRecDepth 100000
set_option maxHeartbeats 8000000
theorem opt_iff {m : Model} {j : Nat} {o : Int} {l : List Opt} (hl : m.classes[j]? = some l) : (o = -1 ∨ optionP m j o) ↔ (-1 ≤ o ∧ o < l.length) := by
  unfold optionP
  rw [Int.toNat_natCast, hl]
  constructor
  · rintro (h | ⟨_, h1, l', h2, h3⟩)
    · omega
    · cases h2; omega
  · rintro ⟨h1, h2⟩
    by_cases h : o = -1
    · exact .inl h
    · exact .inr ⟨by omega, by omega, l, rfl, h2⟩
theorem c_rpart (m : Model) (plan : List Int) (hz : sizedP m) : PCall Tryz.prog 48 [ag m.cells, .pv (encInts plan)] (fun r => r = vbool (pB (isPlanP m plan))) := by
  refine acall_of tok mixed 33 rfl (fn := Tryz.f48) (c := Tryz.f48.body.getD .skip) (by kernel_rfl) (by kernel_rfl) (by kernel_rfl) rfl 0 rfl ?_
  have hcn := hz.1
  repeat' (first | refine o1 ?_ | refine o2 ?_ | refine k1 ?_ | refine k2 ?_ | refine k3 ?_ | refine k4 ?_ | refine k6 ?_ | refine k7 ?_ | refine And.intro ?_ ?_ | (intro h; first | exact Bool.noConfusion h | exact nz _ h | exact nl h | (simp at h; done) | (simp at h; first | (exfalso; omega) | skip) | skip) | (change retOk _ _ _ _; refine ret_pure rfl trivial ?_) | refine eqv_len_map ?_ | fail)
  all_goals first
    | exact congrArg vbool (pB_f fun h => by have := h.1; omega).symm
    | skip
  have hpl : plan.length = m.classes.length := by omega
  refine loop_at (fun i : Nat => [(5, vint .i64 i)]) (fun _ => []) (fun i => i ≤ plan.length ∧ ∀ j : Nat, j < i → ∀ o l, plan[j]? = some o → m.classes[j]? = some l → -1 ≤ o ∧ o < l.length) (fun i => plan.length - i) 0 ⟨by omega, fun j hj => by omega⟩ (by repeat' (first | exact trivial | exact ⟨_, rfl, ALe.refl⟩ | refine And.intro ?_ ?_)) (by repeat' (first | exact trivial | exact rfl | refine And.intro ?_ ?_)) ?_
  intro i ⟨hi, hall⟩
  rcases Nat.lt_or_ge i plan.length with hlt | hge
  · obtain ⟨o, ho⟩ := getE hlt
    obtain ⟨l, hl⟩ := getE (l := m.classes) (i := i) (by omega)
    have hiff := opt_iff (o := o) hl
    have hstep : -1 ≤ o ∧ o < l.length → ∀ j : Nat, j < i + 1 → ∀ o l, plan[j]? = some o → m.classes[j]? = some l → -1 ≤ o ∧ o < l.length := fun h1 j hj o' l' ho' hl' => by
      rcases Nat.lt_or_ge j i with h3 | h3
      · exact hall j h3 o' l' ho' hl'
      · obtain rfl : j = i := by omega
        rw [ho] at ho'; rw [hl] at hl'; cases ho'; cases hl'; exact h1
    repeat' (first | (refine idx_sl (k := i) (at_map ho) (by omega) ?_) | refine o1 ?_ | refine o2 ?_ | refine k1 ?_ | refine k2 ?_ | refine k3 ?_ | refine k4 ?_ | refine k6 ?_ | refine k7 ?_ | refine And.intro ?_ ?_ | refine o3 ?_ | refine o4 ?_ | (intro h; first | exact Bool.noConfusion h | exact nz _ h | exact nl h | (simp at h; done) | (simp at h; first | (exfalso; omega) | skip) | skip) | (change retOk _ _ _ _; refine ret_pure rfl trivial ?_) | exact (by kernel_rfl : drawOk _ _ = true) | refine eqv_len_map ?_ | refine eqv_wrap (by omega) (by omega) ?_ | (change vcFunD _ _ _ _ _; refine callD_eq rfl (by repeat' (first | trivial | refine And.intro ?_ ?_ | (show 0 + _ ≤ List.length _; simp))) ALeL.refl (c_roption m i o) rfl ?_) | fail)
    all_goals first
      | (refine congrArg vbool (pB_f fun h => ?_).symm; exact (hiff.2 (h.2 i hlt o l ho hl)).elim (fun g => absurd g (by assumption)) (fun g => absurd g (by assumption)))
      | exact ⟨i + 1, ⟨by omega, hstep (hiff.1 (by first | exact .inl (by omega) | exact .inr (by assumption)))⟩, by omega, back [0] rfl rfl ⟨rfl, trivial⟩ (by repeat' (first | exact trivial | exact rfl | refine And.intro ?_ ?_))⟩
  · repeat' (first | refine o1 ?_ | refine o2 ?_ | refine k1 ?_ | refine k2 ?_ | refine k3 ?_ | refine k7 ?_ | refine k8 ?_ | refine And.intro ?_ ?_ | (intro h; first | exact Bool.noConfusion h | exact nz _ h | exact nl h | (simp at h; done) | (simp at h; first | (exfalso; omega) | skip) | skip) | (change retOk _ _ _ _; refine ret_pure rfl trivial ?_) | refine eqv_len_map ?_ | fail)
    all_goals first
      | exact congrArg vbool (pB_t ⟨hpl, fun j hj => hall j (by omega)⟩).symm
structure PlX (m : Model) (full : Bool) (l : List Int) (n : Nat) : Prop where
  len : l.length = n
  at_ : ∀ i, i < n → ∀ o c, l[i]? = some o → m.classes[i]? = some c → -1 ≤ o ∧ (1 ≤ c.length → o < c.length) ∧ (full = false → o < c.length) ∧ (full = true → 0 ≤ o)
def planS (m : Model) (t : List Int) (k : Nat) (full : Bool) : Nat → List Int × Nat
  | 0 => ([], k)
  | i + 1 => match m.classes[i]? with
    | some c => ((planS m t k full i).1 ++ [if full then nextV t (planS m t k full i).2 c.length else nextV t (planS m t k full i).2 ((c.length : Int) + 1) - 1], nextK t (planS m t k full i).2)
    | none => planS m t k full i
end Go.Proofs.YtihpjcmloecaaaaGreat.Cw
/-
  Costs of plans by the reference.
-/
namespace Go.Proofs.YtihpjcmloecaaaaGreat.Cw
open Go Go.Cw Go.Proofs
set_option linter.unusedVariables false
set_option maxRecDepth 100000
set_option maxHeartbeats 8000000
theorem c_addR (a b : Int) (ha : 0 ≤ a ∧ a ≤ 1099511627776) (hb : 0 ≤ b ∧ b ≤ 1099511627776) : PCall Tryz.prog 69 [vint .i64 a, vint .i64 b] (fun r => r = vint .i64 (addC a b)) := by
  refine acall_of tok mixed 9 rfl (fn := Tryz.f69) (c := Tryz.f69.body.getD .skip) (by kernel_rfl) (by kernel_rfl) (by kernel_rfl) rfl 0 rfl ?_
  repeat' (first | refine o1 ?_ | refine o2 ?_ | refine k1 ?_ | refine k2 ?_ | refine k3 ?_ | refine k4 ?_ | refine k6 ?_ | refine k7 ?_ | refine k8 ?_ | refine And.intro ?_ ?_ | exact trivial | refine o3 ?_ | refine o4 ?_ | refine o5 ?_ | refine o6 ?_ | refine k5 ?_ | (intro h; first | exact Bool.noConfusion h | exact nz _ h | exact nl h | (simp at h; done) | (simp at h; first | (exfalso; omega) | skip) | skip) | (change retOk _ _ _ _; refine ret_pure rfl trivial ?_) | exact (rfl : allOne _ = true) | (refine (?_ : (0 : Int) ≤ _); omega) | (refine (?_ : _ ≠ _); omega) | (refine (?_ : srcLen _ = rowsLen _); rfl) | exact Nat.le_of_ble_eq_true rfl | exact (by kernel_rfl : drawOk _ _ = true) | refine eqv_len_map ?_ | refine eqv_size ?_ | refine eqv_put (eqv_ck ?_) | refine eqv_zero ?_ | refine eqv_wrap (by omega) (by omega) ?_ | refine eqv_u64 (by omega) (by omega) ?_ | refine eqv_u8 (by omega) (by omega) ?_ | refine eqv_to _ (set_map rfl rfl) ?_ | refine ⟨_, _, (by first | rfl | assumption), at_map (by assumption), ?_⟩ | refine ⟨_, _, (by first | rfl | assumption), (by assumption), ?_⟩ | refine ⟨_, at_map (by assumption), (by decide), ?_⟩ | refine ⟨_, at_map (by assumption), ?_⟩ | (refine (?_ : _ ≤ 140737488355328); simp [rowsLen] <;> omega) | (refine (?_ : _ ≤ 9223372036854775807); simp [rowsLen] <;> omega) | (refine (?_ : _ = rowsLen _); simp [rowsLen] <;> omega) | refine eqv_to _ (app_row rfl) (eqv_to _ app_len ?_) | refine eqv_to _ (app_first rfl) (eqv_to 1 rfl ?_) | refine idx_sl (at_map (by assumption)) (by omega) ?_ | refine idx_ms _ (by first | rfl | assumption) (by first | assumption | omega) ?_ | fail)
  refine congrArg (vint .i64) ?_
  unfold addC
  simp only [cond_false, cond_true]
  (repeat' split) <;> omega
theorem c_timesR (n p : Int) (hn : -2000000 ≤ n ∧ n ≤ 1000000) (hp : priceP p) : PCall Tryz.prog 98 [vint .i64 n, vint .i64 p] (fun r => r = vint .i64 (timesC n p)) := by
  have hpb := priceP_bnd hp
  refine acall_of tok mixed 13 rfl (fn := Tryz.f98) (c := Tryz.f98.body.getD .skip) (by kernel_rfl) (by kernel_rfl) (by kernel_rfl) rfl 0 rfl ?_
  repeat' (first | (refine eqv_mulC (by omega) (by omega) (fun _ => ?_)) | refine o1 ?_ | refine o2 ?_ | refine k1 ?_ | refine k2 ?_ | refine k3 ?_ | refine k4 ?_ | refine k6 ?_ | refine k7 ?_ | refine k8 ?_ | refine And.intro ?_ ?_ | exact trivial | refine o3 ?_ | refine o4 ?_ | refine o5 ?_ | refine o6 ?_ | refine k5 ?_ | (intro h; first | exact Bool.noConfusion h | exact nz _ h | exact nl h | (simp at h; done) | (simp at h; first | (exfalso; omega) | skip) | skip) | (change retOk _ _ _ _; refine ret_pure rfl trivial ?_) | exact (rfl : allOne _ = true) | (refine (?_ : (0 : Int) ≤ _); omega) | (refine (?_ : _ ≠ _); omega) | (refine (?_ : srcLen _ = rowsLen _); rfl) | exact Nat.le_of_ble_eq_true rfl | exact (by kernel_rfl : drawOk _ _ = true) | refine eqv_len_map ?_ | refine eqv_size ?_ | refine eqv_put (eqv_ck ?_) | refine eqv_zero ?_ | refine eqv_wrap (by omega) (by omega) ?_ | refine eqv_u64 (by omega) (by omega) ?_ | refine eqv_u8 (by omega) (by omega) ?_ | refine eqv_to _ (set_map rfl rfl) ?_ | refine ⟨_, _, (by first | rfl | assumption), at_map (by assumption), ?_⟩ | refine ⟨_, _, (by first | rfl | assumption), (by assumption), ?_⟩ | refine ⟨_, at_map (by assumption), (by decide), ?_⟩ | refine ⟨_, at_map (by assumption), ?_⟩ | (refine (?_ : _ ≤ 140737488355328); simp [rowsLen] <;> omega) | (refine (?_ : _ ≤ 9223372036854775807); simp [rowsLen] <;> omega) | (refine (?_ : _ = rowsLen _); simp [rowsLen] <;> omega) | refine eqv_to _ (app_row rfl) (eqv_to _ app_len ?_) | refine eqv_to _ (app_first rfl) (eqv_to 1 rfl ?_) | refine idx_sl (at_map (by assumption)) (by omega) ?_ | refine idx_ms _ (by first | rfl | assumption) (by first | assumption | omega) ?_ | fail)
  · refine congrArg (vint .i64) ?_
    unfold timesC; rw [if_pos (by omega)]
  · refine congrArg (vint .i64) ?_
    unfold timesC; rw [if_neg (by omega), if_neg (by omega)]
  · refine congrArg (vint .i64) ?_
    unfold timesC
    simp only [cond_false, cond_true]
    (repeat' split) <;> omega
def arrI (l : List Int) : Option AObj := some ⟨3, 1, false, .p (l.map intRow)⟩
theorem c_rrules (m : Model) (plan : List Int) (h0 : modelE m = 0) (hl : Laid m) (hp : plannedP m plan) : PCall Tryz.prog 68 [ag m.cells, .pv (encInts plan)] (fun r => r = .pv (.sl 1 ((rulesV m plan).map intRow))) := by
  have hz := model_sized h0
  have hcn := hz.1
  have hru := hz.2.2.2.2
  have g := model_good h0
  have hpl := hp.1
  refine acall_of tok mixed 178 rfl (fn := Tryz.f68) (c := Tryz.f68.body.getD .skip) (by kernel_rfl) (by kernel_rfl) (by kernel_rfl) rfl 0 rfl ?_
  repeat' (first | (refine ⟨m.rules.toNat, m.rules.toNat, by omega, by omega, Nat.le_refl _, by omega, by omega, ?_⟩) | (refine eqv_to ((zeroC m).map intRow) (by unfold zeroC; rw [List.map_replicate]; rfl) ?_) | refine o1 ?_ | refine o2 ?_ | refine k1 ?_ | refine k2 ?_ | refine k3 ?_ | refine k4 ?_ | refine k6 ?_ | refine k7 ?_ | refine k8 ?_ | refine And.intro ?_ ?_ | exact trivial | refine o3 ?_ | refine o4 ?_ | refine o5 ?_ | refine o6 ?_ | refine k5 ?_ | (intro h; first | exact Bool.noConfusion h | exact nz _ h | exact nl h | (simp at h; done) | (simp at h; first | (exfalso; omega) | skip) | skip) | (change retOk _ _ _ _; refine ret_pure rfl trivial ?_) | exact (rfl : allOne _ = true) | (refine (?_ : (0 : Int) ≤ _); omega) | (refine (?_ : _ ≠ _); omega) | (refine (?_ : srcLen _ = rowsLen _); rfl) | exact Nat.le_of_ble_eq_true rfl | exact (by kernel_rfl : drawOk _ _ = true) | refine eqv_len_map ?_ | refine eqv_size ?_ | refine eqv_put (eqv_ck ?_) | refine eqv_zero ?_ | refine eqv_wrap (by omega) (by omega) ?_ | refine eqv_u64 (by omega) (by omega) ?_ | refine eqv_u8 (by omega) (by omega) ?_ | refine eqv_to _ (set_map rfl rfl) ?_ | refine ⟨_, _, (by first | rfl | assumption), at_map (by assumption), ?_⟩ | refine ⟨_, _, (by first | rfl | assumption), (by assumption), ?_⟩ | refine ⟨_, at_map (by assumption), (by decide), ?_⟩ | refine ⟨_, at_map (by assumption), ?_⟩ | (refine (?_ : _ ≤ 140737488355328); simp [rowsLen] <;> omega) | (refine (?_ : _ ≤ 9223372036854775807); simp [rowsLen] <;> omega) | (refine (?_ : _ = rowsLen _); simp [rowsLen] <;> omega) | refine eqv_to _ (app_row rfl) (eqv_to _ app_len ?_) | refine eqv_to _ (app_first rfl) (eqv_to 1 rfl ?_) | refine idx_sl (at_map (by assumption)) (by omega) ?_ | refine idx_ms _ (by first | rfl | assumption) (by first | assumption | omega) ?_ | fail)
  refine loop_for (fun i : Nat => [(1, .pv (encInts plan)), (2, .ptr 0 4 0 0), (5, .ms 1 1 0 m.rules.toNat), (6, vint .i64 i)]) (fun i => [mdlO m, arrI (runC m (gr (chgT m plan) i))]) (fun i => i ≤ plan.length) (fun i => plan.length - i) 0 (Nat.zero_le _) ?_ ?_
  · exact back [0, 1] rfl rfl ⟨rfl, rfl, trivial⟩ (by repeat' (first | exact trivial | exact rfl | exact ⟨_, rfl, ALe.refl⟩ | refine And.intro ?_ ?_))
  intro i hi
  dsimp only [mdlO, arrI]
  rcases Nat.lt_or_ge i plan.length with hlt | hge
  · obtain ⟨o, ho⟩ := getE hlt
    rcases hp.2 i hlt o ho with rfl | hopt
    · have hn := chgT_neg (m := m) ho (by decide)
      repeat' (first | (refine idx_sl (k := i) (at_map ho) (by omega) ?_) | refine o1 ?_ | refine o2 ?_ | refine k1 ?_ | refine k2 ?_ | refine k3 ?_ | refine k4 ?_ | refine k6 ?_ | refine k7 ?_ | refine k8 ?_ | refine And.intro ?_ ?_ | exact trivial | refine o3 ?_ | refine o4 ?_ | refine o5 ?_ | refine o6 ?_ | refine k5 ?_ | (intro h; first | exact Bool.noConfusion h | exact nz _ h | exact nl h | (simp at h; done) | (simp at h; first | (exfalso; omega) | skip) | skip) | (change retOk _ _ _ _; refine ret_pure rfl trivial ?_) | exact (rfl : allOne _ = true) | (refine (?_ : (0 : Int) ≤ _); omega) | (refine (?_ : _ ≠ _); omega) | (refine (?_ : srcLen _ = rowsLen _); rfl) | exact Nat.le_of_ble_eq_true rfl | exact (by kernel_rfl : drawOk _ _ = true) | refine eqv_len_map ?_ | refine eqv_size ?_ | refine eqv_put (eqv_ck ?_) | refine eqv_zero ?_ | refine eqv_wrap (by omega) (by omega) ?_ | refine eqv_u64 (by omega) (by omega) ?_ | refine eqv_u8 (by omega) (by omega) ?_ | refine eqv_to _ (set_map rfl rfl) ?_ | refine ⟨_, _, (by first | rfl | assumption), at_map (by assumption), ?_⟩ | refine ⟨_, _, (by first | rfl | assumption), (by assumption), ?_⟩ | refine ⟨_, at_map (by assumption), (by decide), ?_⟩ | refine ⟨_, at_map (by assumption), ?_⟩ | (refine (?_ : _ ≤ 140737488355328); simp [rowsLen] <;> omega) | (refine (?_ : _ ≤ 9223372036854775807); simp [rowsLen] <;> omega) | (refine (?_ : _ = rowsLen _); simp [rowsLen] <;> omega) | refine eqv_to _ (app_row rfl) (eqv_to _ app_len ?_) | refine eqv_to _ (app_first rfl) (eqv_to 1 rfl ?_) | refine idx_sl (at_map (by assumption)) (by omega) ?_ | refine idx_ms _ (by first | rfl | assumption) (by first | assumption | omega) ?_ | fail)
      all_goals try (exfalso; omega)
      refine ⟨i + 1, hlt, by omega, ?_⟩
      rw [gr_succ, hn, List.append_nil]
      exact back [0, 1] rfl rfl ⟨rfl, rfl, trivial⟩ (by repeat' (first | exact trivial | exact rfl | exact ⟨_, rfl, ALe.refl⟩ | refine And.intro ?_ ?_))
    · obtain ⟨-, g2, l, hl1, hol⟩ := hopt
      rw [Int.toNat_natCast] at hl1
      obtain ⟨n, rfl⟩ := Int.eq_ofNat_of_zero_le g2
      obtain ⟨x, hx⟩ := getE (show n < l.length by omega)
      have hct := chgT_at hl1 ho hx
      have hxn := hl.ch l (List.mem_of_getElem? hl1) x (List.mem_of_getElem? hx)
      repeat' (first | (refine idx_sl (k := i) (at_map ho) (by omega) ?_) | (refine idx_sl (k := i) (at_map hl1) (by omega) ?_) | (refine idx_sl (k := n) (at_map hx) (by omega) ?_) | refine o1 ?_ | refine o2 ?_ | refine k1 ?_ | refine k2 ?_ | refine k3 ?_ | refine k4 ?_ | refine k6 ?_ | refine k7 ?_ | refine k8 ?_ | refine And.intro ?_ ?_ | exact trivial | refine o3 ?_ | refine o4 ?_ | refine o5 ?_ | refine o6 ?_ | refine k5 ?_ | (intro h; first | exact Bool.noConfusion h | exact nz _ h | exact nl h | (simp at h; done) | (simp at h; first | (exfalso; omega) | skip) | skip) | (change retOk _ _ _ _; refine ret_pure rfl trivial ?_) | exact (rfl : allOne _ = true) | (refine (?_ : (0 : Int) ≤ _); omega) | (refine (?_ : _ ≠ _); omega) | (refine (?_ : srcLen _ = rowsLen _); rfl) | exact Nat.le_of_ble_eq_true rfl | exact (by kernel_rfl : drawOk _ _ = true) | refine eqv_len_map ?_ | refine eqv_size ?_ | refine eqv_put (eqv_ck ?_) | refine eqv_zero ?_ | refine eqv_wrap (by omega) (by omega) ?_ | refine eqv_u64 (by omega) (by omega) ?_ | refine eqv_u8 (by omega) (by omega) ?_ | refine eqv_to _ (set_map rfl rfl) ?_ | refine ⟨_, _, (by first | rfl | assumption), at_map (by assumption), ?_⟩ | refine ⟨_, _, (by first | rfl | assumption), (by assumption), ?_⟩ | refine ⟨_, at_map (by assumption), (by decide), ?_⟩ | refine ⟨_, at_map (by assumption), ?_⟩ | (refine (?_ : _ ≤ 140737488355328); simp [rowsLen] <;> omega) | (refine (?_ : _ ≤ 9223372036854775807); simp [rowsLen] <;> omega) | (refine (?_ : _ = rowsLen _); simp [rowsLen] <;> omega) | refine eqv_to _ (app_row rfl) (eqv_to _ app_len ?_) | refine eqv_to _ (app_first rfl) (eqv_to 1 rfl ?_) | refine idx_sl (at_map (by assumption)) (by omega) ?_ | refine idx_ms _ (by first | rfl | assumption) (by first | assumption | omega) ?_ | fail)
      all_goals try (exfalso; omega)
      refine loop_for (fun k : Nat => [(1, .pv (encInts plan)), (2, .ptr 0 4 0 0), (5, .ms 1 1 0 m.rules.toNat), (6, vint .i64 i), (7, .pv (.sl 2 (x.charges.map Charge.row))), (8, vint .i64 k)])
        (fun k => [mdlO m, arrI (runC m (gr (chgT m plan) i ++ (chgT m plan i).take k))]) (fun k => k ≤ x.charges.length) (fun k => x.charges.length - k) 0 (Nat.zero_le _) ?_ ?_
      · rw [List.take_zero, List.append_nil]
        exact back [0, 1] rfl rfl ⟨rfl, rfl, trivial⟩ (by repeat' (first | exact trivial | exact rfl | exact ⟨_, rfl, ALe.refl⟩ | refine And.intro ?_ ?_))
      intro k hk
      dsimp only [mdlO, arrI]
      rcases Nat.lt_or_ge k x.charges.length with hlt2 | hge2
      · obtain ⟨c, hck⟩ := getE hlt2
        have ht : (chgT m plan i)[k]? = some (c.rule, c.cost) := by rw [hct, List.getElem?_map, hck]; rfl
        have hcok := chgT_ok g _ (List.mem_of_getElem? ht)
        obtain ⟨v, hv, hvb⟩ := run_get (aap (gr_ok g (plan := plan) (n := i)) fun t ht => chgT_ok g t (List.mem_of_mem_take ht)) hcok.1
        obtain ⟨cr, cc⟩ := c
        obtain ⟨r, rfl⟩ := Int.eq_ofNat_of_zero_le hcok.1.1
        dsimp only at hcok hv ht
        rw [Int.toNat_natCast] at hv
        have hnx := run_next (T := gr (chgT m plan) i ++ (chgT m plan i).take k) (r := (r : Int)) (c := cc) hv
        rw [Int.toNat_natCast] at hnx
        have hln := run_len (m := m) (T := gr (chgT m plan) i ++ (chgT m plan i).take k)
        have hstp : gr (chgT m plan) i ++ (chgT m plan i).take (k + 1) = (gr (chgT m plan) i ++ (chgT m plan i).take k) ++ [((r : Int), cc)] := by rw [take_snoc ht, ← List.append_assoc]
        generalize hL : runC m (gr (chgT m plan) i ++ (chgT m plan i).take k) = L at *
        have hadd := c_addR v cc hvb hcok.2
        have hrl := (List.getElem?_eq_some_iff.1 hv).1
        repeat' (first | (refine idx_sl (k := k) (at_map hck) (by omega) ?_) | (refine idx_ms r rfl (by omega) ?_) | (refine ⟨_, at_map hv, ?_⟩) | (refine eqv_to _ (set_map (f := intRow) (y := addC v cc) rfl rfl) ?_) | refine o1 ?_ | refine o2 ?_ | refine k1 ?_ | refine k2 ?_ | refine k3 ?_ | refine k4 ?_ | refine k6 ?_ | refine k7 ?_ | refine k8 ?_ | refine And.intro ?_ ?_ | exact trivial | refine o3 ?_ | refine o4 ?_ | refine o5 ?_ | refine o6 ?_ | refine k5 ?_ | (intro h; first | exact Bool.noConfusion h | exact nz _ h | exact nl h | (simp at h; done) | (simp at h; first | (exfalso; omega) | skip) | skip) | (change retOk _ _ _ _; refine ret_pure rfl trivial ?_) | exact (rfl : allOne _ = true) | (refine (?_ : (0 : Int) ≤ _); omega) | (refine (?_ : _ ≠ _); omega) | (refine (?_ : srcLen _ = rowsLen _); rfl) | exact Nat.le_of_ble_eq_true rfl | exact (by kernel_rfl : drawOk _ _ = true) | refine eqv_len_map ?_ | refine eqv_size ?_ | refine eqv_put (eqv_ck ?_) | refine eqv_zero ?_ | refine eqv_wrap (by omega) (by omega) ?_ | refine eqv_u64 (by omega) (by omega) ?_ | refine eqv_u8 (by omega) (by omega) ?_ | refine eqv_to _ (set_map rfl rfl) ?_ | refine ⟨_, _, (by first | rfl | assumption), at_map (by assumption), ?_⟩ | refine ⟨_, _, (by first | rfl | assumption), (by assumption), ?_⟩ | refine ⟨_, at_map (by assumption), (by decide), ?_⟩ | refine ⟨_, at_map (by assumption), ?_⟩ | (refine (?_ : _ ≤ 140737488355328); simp [rowsLen] <;> omega) | (refine (?_ : _ ≤ 9223372036854775807); simp [rowsLen] <;> omega) | (refine (?_ : _ = rowsLen _); simp [rowsLen] <;> omega) | refine eqv_to _ (app_row rfl) (eqv_to _ app_len ?_) | refine eqv_to _ (app_first rfl) (eqv_to 1 rfl ?_) | refine idx_sl (at_map (by assumption)) (by omega) ?_ | refine idx_ms _ (by first | rfl | assumption) (by first | assumption | omega) ?_ | (change vcFunD _ _ _ _ _; refine callD_eq rfl (by repeat' (first | trivial | refine And.intro ?_ ?_ | (show 0 + _ ≤ List.length _; simp))) ALeL.refl (hadd) rfl ?_) | fail)
        all_goals try (exfalso; omega)
        refine ⟨k + 1, hlt2, by omega, ?_⟩
        rw [hstp, ← hnx]
        exact back [0, 1] rfl rfl ⟨rfl, rfl, trivial⟩ (by repeat' (first | exact trivial | exact rfl | exact ⟨_, rfl, ALe.refl⟩ | refine And.intro ?_ ?_))
      · repeat' (first | refine o1 ?_ | refine o2 ?_ | refine k1 ?_ | refine k2 ?_ | refine k3 ?_ | refine k4 ?_ | refine k6 ?_ | refine k7 ?_ | refine k8 ?_ | refine And.intro ?_ ?_ | exact trivial | refine o3 ?_ | refine o4 ?_ | refine o5 ?_ | refine o6 ?_ | refine k5 ?_ | (intro h; first | exact Bool.noConfusion h | exact nz _ h | exact nl h | (simp at h; done) | (simp at h; first | (exfalso; omega) | skip) | skip) | (change retOk _ _ _ _; refine ret_pure rfl trivial ?_) | exact (rfl : allOne _ = true) | (refine (?_ : (0 : Int) ≤ _); omega) | (refine (?_ : _ ≠ _); omega) | (refine (?_ : srcLen _ = rowsLen _); rfl) | exact Nat.le_of_ble_eq_true rfl | exact (by kernel_rfl : drawOk _ _ = true) | refine eqv_len_map ?_ | refine eqv_size ?_ | refine eqv_put (eqv_ck ?_) | refine eqv_zero ?_ | refine eqv_wrap (by omega) (by omega) ?_ | refine eqv_u64 (by omega) (by omega) ?_ | refine eqv_u8 (by omega) (by omega) ?_ | refine eqv_to _ (set_map rfl rfl) ?_ | refine ⟨_, _, (by first | rfl | assumption), at_map (by assumption), ?_⟩ | refine ⟨_, _, (by first | rfl | assumption), (by assumption), ?_⟩ | refine ⟨_, at_map (by assumption), (by decide), ?_⟩ | refine ⟨_, at_map (by assumption), ?_⟩ | (refine (?_ : _ ≤ 140737488355328); simp [rowsLen] <;> omega) | (refine (?_ : _ ≤ 9223372036854775807); simp [rowsLen] <;> omega) | (refine (?_ : _ = rowsLen _); simp [rowsLen] <;> omega) | refine eqv_to _ (app_row rfl) (eqv_to _ app_len ?_) | refine eqv_to _ (app_first rfl) (eqv_to 1 rfl ?_) | refine idx_sl (at_map (by assumption)) (by omega) ?_ | refine idx_ms _ (by first | rfl | assumption) (by first | assumption | omega) ?_ | fail)
        all_goals try (exfalso; omega)
        refine ⟨i + 1, hlt, by omega, ?_⟩
        rw [gr_succ, List.take_of_length_le (by rw [hct, List.length_map]; omega)]
        exact back [0, 1] rfl rfl ⟨rfl, rfl, trivial⟩ (by repeat' (first | exact trivial | exact rfl | exact ⟨_, rfl, ALe.refl⟩ | refine And.intro ?_ ?_))
  obtain rfl : i = plan.length := by omega
  repeat' (first | refine o1 ?_ | refine o2 ?_ | refine k1 ?_ | refine k2 ?_ | refine k3 ?_ | refine k4 ?_ | refine k6 ?_ | refine k7 ?_ | refine k8 ?_ | refine And.intro ?_ ?_ | exact trivial | refine o3 ?_ | refine o4 ?_ | refine o5 ?_ | refine o6 ?_ | refine k5 ?_ | (intro h; first | exact Bool.noConfusion h | exact nz _ h | exact nl h | (simp at h; done) | (simp at h; first | (exfalso; omega) | skip) | skip) | (change retOk _ _ _ _; refine ret_pure rfl trivial ?_) | exact (rfl : allOne _ = true) | (refine (?_ : (0 : Int) ≤ _); omega) | (refine (?_ : _ ≠ _); omega) | (refine (?_ : srcLen _ = rowsLen _); rfl) | exact Nat.le_of_ble_eq_true rfl | exact (by kernel_rfl : drawOk _ _ = true) | refine eqv_len_map ?_ | refine eqv_size ?_ | refine eqv_put (eqv_ck ?_) | refine eqv_zero ?_ | refine eqv_wrap (by omega) (by omega) ?_ | refine eqv_u64 (by omega) (by omega) ?_ | refine eqv_u8 (by omega) (by omega) ?_ | refine eqv_to _ (set_map rfl rfl) ?_ | refine ⟨_, _, (by first | rfl | assumption), at_map (by assumption), ?_⟩ | refine ⟨_, _, (by first | rfl | assumption), (by assumption), ?_⟩ | refine ⟨_, at_map (by assumption), (by decide), ?_⟩ | refine ⟨_, at_map (by assumption), ?_⟩ | (refine (?_ : _ ≤ 140737488355328); simp [rowsLen] <;> omega) | (refine (?_ : _ ≤ 9223372036854775807); simp [rowsLen] <;> omega) | (refine (?_ : _ = rowsLen _); simp [rowsLen] <;> omega) | refine eqv_to _ (app_row rfl) (eqv_to _ app_len ?_) | refine eqv_to _ (app_first rfl) (eqv_to 1 rfl ?_) | refine idx_sl (at_map (by assumption)) (by omega) ?_ | refine idx_ms _ (by first | rfl | assumption) (by first | assumption | omega) ?_ | fail)
  all_goals try (exfalso; omega)
  refine loop_for (fun i : Nat => [(1, .pv (encInts plan)), (2, .ptr 0 4 0 0), (5, .ms 1 1 0 m.rules.toNat), (9, vint .i64 i)]) (fun i => [mdlO m, arrI (runC m (gr (chgT m plan) plan.length ++ prsT m plan i))]) (fun i => i ≤ m.pairs.length) (fun i => m.pairs.length - i) 0 (Nat.zero_le _) ?_ ?_
  · have e : prsT m plan 0 = [] := rfl
    rw [e, List.append_nil]
    exact back [0, 1] rfl rfl ⟨rfl, rfl, trivial⟩ (by repeat' (first | exact trivial | exact rfl | exact ⟨_, rfl, ALe.refl⟩ | refine And.intro ?_ ?_))
  intro i hi
  dsimp only [mdlO, arrI]
  have hpn := hz.2.2.1
  rcases Nat.lt_or_ge i m.pairs.length with hlt | hge
  · obtain ⟨p, hpi⟩ := getE hlt
    have hpp := (g.2.1 i hlt p hpi).1
    obtain ⟨q1, q2, q3, ⟨la, lb, q4, q5, q6⟩, q7⟩ := hpp
    obtain ⟨pf, ps, pr, PT⟩ := p
    dsimp only at q1 q2 q3 q4 q5 q6 q7
    obtain ⟨f, rfl⟩ := Int.eq_ofNat_of_zero_le q2
    obtain ⟨s, rfl⟩ := Int.eq_ofNat_of_zero_le (show 0 ≤ ps by omega)
    obtain ⟨r, rfl⟩ := Int.eq_ofNat_of_zero_le q1.1
    rw [Int.toNat_natCast] at q4 q5
    have hf := (List.getElem?_eq_some_iff.1 q4).1
    have hs := (List.getElem?_eq_some_iff.1 q5).1
    obtain ⟨oa, hoa⟩ := getE (show f < plan.length by omega)
    obtain ⟨ob, hob⟩ := getE (show s < plan.length by omega)
    have ga := hp.2 _ (List.getElem?_eq_some_iff.1 hoa).1 oa hoa
    have gb := hp.2 _ (List.getElem?_eq_some_iff.1 hob).1 ob hob
    by_cases hab : 0 ≤ oa ∧ 0 ≤ ob
    · have ha2 := ga.resolve_left (by omega)
      have hb2 := gb.resolve_left (by omega)
      obtain ⟨-, -, l1, e1, ha3⟩ := ha2
      obtain ⟨-, -, l2, e2, hb3⟩ := hb2
      rw [Int.toNat_natCast, q4] at e1; cases e1
      rw [Int.toNat_natCast, q5] at e2; cases e2
      have ht := pairT_some (m := m) (p := ⟨f, s, r, PT⟩) (by dsimp only; rw [Int.toNat_natCast]; exact hoa) (by dsimp only; rw [Int.toNat_natCast]; exact hob) hab.1 hab.2
      obtain ⟨a, rfl⟩ := Int.eq_ofNat_of_zero_le hab.1
      obtain ⟨b, rfl⟩ := Int.eq_ofNat_of_zero_le hab.2
      have hla := hz.2.1 _ (List.mem_of_getElem? q4)
      have hlb := hz.2.1 _ (List.mem_of_getElem? q5)
      have hbd : a * lb.length + b < PT.length := by
        rw [q6]
        have : (a + 1) * lb.length ≤ la.length * lb.length := Nat.mul_le_mul (by omega) (Nat.le_refl _)
        rw [Nat.succ_mul] at this
        omega
      obtain ⟨w, hw⟩ := getE hbd
      have htk := pairT_ok (g.2.1 i hlt _ hpi).1 ht
      rw [entV_at (p := ⟨f, s, r, PT⟩) (by dsimp only; rw [Int.toNat_natCast]; exact q5) hw] at ht htk
      obtain ⟨v, hv, hvb⟩ := run_get (aap (gr_ok g (plan := plan) (n := plan.length)) (prsT_ok g (plan := plan) (n := i))) q1
      rw [Int.toNat_natCast] at hv
      have hnx := run_next (r := (r : Int)) (c := w) hv
      rw [Int.toNat_natCast] at hnx
      have hln := run_len (m := m) (T := gr (chgT m plan) plan.length ++ prsT m plan i)
      have hstp : gr (chgT m plan) plan.length ++ prsT m plan (i + 1) = (gr (chgT m plan) plan.length ++ prsT m plan i) ++ [((r : Int), w)] := by unfold prsT; rw [upto_some hpi ht, ← List.append_assoc]
      generalize hL : runC m (gr (chgT m plan) plan.length ++ prsT m plan i) = L at *
      have hadd := c_addR v w hvb htk.2
      have hent := c_rentry m ⟨f, s, r, PT⟩ a b lb w (by dsimp only; omega) (by dsimp only; rw [Int.toNat_natCast]; exact q5) (by omega) (by omega) (by omega) hw
      have hrl := (List.getElem?_eq_some_iff.1 hv).1
      repeat' (first | (refine idx_sl (k := i) (at_map hpi) (by omega) ?_) | (refine idx_sl (k := f) (at_map hoa) (by omega) ?_) | (refine idx_sl (k := s) (at_map hob) (by omega) ?_) | (refine idx_ms r rfl (by omega) ?_) | (refine ⟨_, at_map hv, ?_⟩) | (refine eqv_to _ (set_map (f := intRow) (y := addC v w) rfl rfl) ?_) | refine o1 ?_ | refine o2 ?_ | refine k1 ?_ | refine k2 ?_ | refine k3 ?_ | refine k4 ?_ | refine k6 ?_ | refine k7 ?_ | refine k8 ?_ | refine And.intro ?_ ?_ | exact trivial | refine o3 ?_ | refine o4 ?_ | refine o5 ?_ | refine o6 ?_ | refine k5 ?_ | (intro h; first | exact Bool.noConfusion h | exact nz _ h | exact nl h | (simp at h; done) | (simp at h; first | (exfalso; omega) | skip) | skip) | (change retOk _ _ _ _; refine ret_pure rfl trivial ?_) | exact (rfl : allOne _ = true) | (refine (?_ : (0 : Int) ≤ _); omega) | (refine (?_ : _ ≠ _); omega) | (refine (?_ : srcLen _ = rowsLen _); rfl) | exact Nat.le_of_ble_eq_true rfl | exact (by kernel_rfl : drawOk _ _ = true) | refine eqv_len_map ?_ | refine eqv_size ?_ | refine eqv_put (eqv_ck ?_) | refine eqv_zero ?_ | refine eqv_wrap (by omega) (by omega) ?_ | refine eqv_u64 (by omega) (by omega) ?_ | refine eqv_u8 (by omega) (by omega) ?_ | refine eqv_to _ (set_map rfl rfl) ?_ | refine ⟨_, _, (by first | rfl | assumption), at_map (by assumption), ?_⟩ | refine ⟨_, _, (by first | rfl | assumption), (by assumption), ?_⟩ | refine ⟨_, at_map (by assumption), (by decide), ?_⟩ | refine ⟨_, at_map (by assumption), ?_⟩ | (refine (?_ : _ ≤ 140737488355328); simp [rowsLen] <;> omega) | (refine (?_ : _ ≤ 9223372036854775807); simp [rowsLen] <;> omega) | (refine (?_ : _ = rowsLen _); simp [rowsLen] <;> omega) | refine eqv_to _ (app_row rfl) (eqv_to _ app_len ?_) | refine eqv_to _ (app_first rfl) (eqv_to 1 rfl ?_) | refine idx_sl (at_map (by assumption)) (by omega) ?_ | refine idx_ms _ (by first | rfl | assumption) (by first | assumption | omega) ?_ | (change vcFunD _ _ _ _ _; refine callD_eq rfl (by repeat' (first | trivial | refine And.intro ?_ ?_ | (show 0 + _ ≤ List.length _; simp))) ALeL.refl (hent) rfl ?_) | (change vcFunD _ _ _ _ _; refine callD_eq rfl (by repeat' (first | trivial | refine And.intro ?_ ?_ | (show 0 + _ ≤ List.length _; simp))) ALeL.refl (hadd) rfl ?_) | fail)
      all_goals try (exfalso; omega)
      exact ⟨i + 1, hlt, by omega, (by rw [hstp, ← hnx]; exact back [0, 1] rfl rfl ⟨rfl, rfl, trivial⟩ (by repeat' (first | exact trivial | exact rfl | exact ⟨_, rfl, ALe.refl⟩ | refine And.intro ?_ ?_)))⟩
    · have ht := pairT_none (m := m) (p := ⟨f, s, r, PT⟩) (by dsimp only; rw [Int.toNat_natCast]; exact hoa) (by dsimp only; rw [Int.toNat_natCast]; exact hob) (by omega)
      have hstp : prsT m plan (i + 1) = prsT m plan i := by unfold prsT; rw [upto_none hpi ht]
      repeat' (first | (refine idx_sl (k := i) (at_map hpi) (by omega) ?_) | (refine idx_sl (k := f) (at_map hoa) (by omega) ?_) | (refine idx_sl (k := s) (at_map hob) (by omega) ?_) | refine o1 ?_ | refine o2 ?_ | refine k1 ?_ | refine k2 ?_ | refine k3 ?_ | refine k4 ?_ | refine k6 ?_ | refine k7 ?_ | refine k8 ?_ | refine And.intro ?_ ?_ | exact trivial | refine o3 ?_ | refine o4 ?_ | refine o5 ?_ | refine o6 ?_ | refine k5 ?_ | (intro h; first | exact Bool.noConfusion h | exact nz _ h | exact nl h | (simp at h; done) | (simp at h; first | (exfalso; omega) | skip) | skip) | (change retOk _ _ _ _; refine ret_pure rfl trivial ?_) | exact (rfl : allOne _ = true) | (refine (?_ : (0 : Int) ≤ _); omega) | (refine (?_ : _ ≠ _); omega) | (refine (?_ : srcLen _ = rowsLen _); rfl) | exact Nat.le_of_ble_eq_true rfl | exact (by kernel_rfl : drawOk _ _ = true) | refine eqv_len_map ?_ | refine eqv_size ?_ | refine eqv_put (eqv_ck ?_) | refine eqv_zero ?_ | refine eqv_wrap (by omega) (by omega) ?_ | refine eqv_u64 (by omega) (by omega) ?_ | refine eqv_u8 (by omega) (by omega) ?_ | refine eqv_to _ (set_map rfl rfl) ?_ | refine ⟨_, _, (by first | rfl | assumption), at_map (by assumption), ?_⟩ | refine ⟨_, _, (by first | rfl | assumption), (by assumption), ?_⟩ | refine ⟨_, at_map (by assumption), (by decide), ?_⟩ | refine ⟨_, at_map (by assumption), ?_⟩ | (refine (?_ : _ ≤ 140737488355328); simp [rowsLen] <;> omega) | (refine (?_ : _ ≤ 9223372036854775807); simp [rowsLen] <;> omega) | (refine (?_ : _ = rowsLen _); simp [rowsLen] <;> omega) | refine eqv_to _ (app_row rfl) (eqv_to _ app_len ?_) | refine eqv_to _ (app_first rfl) (eqv_to 1 rfl ?_) | refine idx_sl (at_map (by assumption)) (by omega) ?_ | refine idx_ms _ (by first | rfl | assumption) (by first | assumption | omega) ?_ | fail)
      all_goals try (exfalso; omega)
      all_goals exact ⟨i + 1, hlt, by omega, (by rw [hstp]; exact back [0, 1] rfl rfl ⟨rfl, rfl, trivial⟩ (by repeat' (first | exact trivial | exact rfl | exact ⟨_, rfl, ALe.refl⟩ | refine And.intro ?_ ?_)))⟩
  obtain rfl : i = m.pairs.length := by omega
  repeat' (first | refine o1 ?_ | refine o2 ?_ | refine k1 ?_ | refine k2 ?_ | refine k3 ?_ | refine k4 ?_ | refine k6 ?_ | refine k7 ?_ | refine k8 ?_ | refine And.intro ?_ ?_ | exact trivial | refine o3 ?_ | refine o4 ?_ | refine o5 ?_ | refine o6 ?_ | refine k5 ?_ | (intro h; first | exact Bool.noConfusion h | exact nz _ h | exact nl h | (simp at h; done) | (simp at h; first | (exfalso; omega) | skip) | skip) | (change retOk _ _ _ _; refine ret_pure rfl trivial ?_) | exact (rfl : allOne _ = true) | (refine (?_ : (0 : Int) ≤ _); omega) | (refine (?_ : _ ≠ _); omega) | (refine (?_ : srcLen _ = rowsLen _); rfl) | exact Nat.le_of_ble_eq_true rfl | exact (by kernel_rfl : drawOk _ _ = true) | refine eqv_len_map ?_ | refine eqv_size ?_ | refine eqv_put (eqv_ck ?_) | refine eqv_zero ?_ | refine eqv_wrap (by omega) (by omega) ?_ | refine eqv_u64 (by omega) (by omega) ?_ | refine eqv_u8 (by omega) (by omega) ?_ | refine eqv_to _ (set_map rfl rfl) ?_ | refine ⟨_, _, (by first | rfl | assumption), at_map (by assumption), ?_⟩ | refine ⟨_, _, (by first | rfl | assumption), (by assumption), ?_⟩ | refine ⟨_, at_map (by assumption), (by decide), ?_⟩ | refine ⟨_, at_map (by assumption), ?_⟩ | (refine (?_ : _ ≤ 140737488355328); simp [rowsLen] <;> omega) | (refine (?_ : _ ≤ 9223372036854775807); simp [rowsLen] <;> omega) | (refine (?_ : _ = rowsLen _); simp [rowsLen] <;> omega) | refine eqv_to _ (app_row rfl) (eqv_to _ app_len ?_) | refine eqv_to _ (app_first rfl) (eqv_to 1 rfl ?_) | refine idx_sl (at_map (by assumption)) (by omega) ?_ | refine idx_ms _ (by first | rfl | assumption) (by first | assumption | omega) ?_ | fail)
  all_goals try (exfalso; omega)
  have hall2 := aap (gr_ok g (plan := plan) (n := plan.length)) (prsT_ok g (plan := plan) (n := m.pairs.length))
  have hrv : rulesV m plan = runC m (gr (chgT m plan) plan.length ++ prsT m plan m.pairs.length ++ cntsT m plan m.counts.length) := rfl
  rw [hrv]
  generalize gr (chgT m plan) plan.length ++ prsT m plan m.pairs.length = T2 at *
  refine loop_for (fun i : Nat => [(1, .pv (encInts plan)), (2, .ptr 0 4 0 0), (5, .ms 1 1 0 m.rules.toNat), (11, vint .i64 i)]) (fun i => [mdlO m, arrI (runC m (T2 ++ cntsT m plan i))]) (fun i => i ≤ m.counts.length) (fun i => m.counts.length - i) 0 (Nat.zero_le _) ?_ ?_
  · have e : cntsT m plan 0 = [] := rfl
    rw [e, List.append_nil]
    exact back [0, 1] rfl rfl ⟨rfl, rfl, trivial⟩ (by repeat' (first | exact trivial | exact rfl | exact ⟨_, rfl, ALe.refl⟩ | refine And.intro ?_ ?_))
  intro i hi
  dsimp only [mdlO, arrI]
  have hctn := hz.2.2.2.1
  rcases Nat.lt_or_ge i m.counts.length with hlt | hge
  · obtain ⟨c, hci⟩ := getE hlt
    have hcm := List.mem_of_getElem? hci
    have hcc := g.2.2 c hcm
    have hcn := loads_len hz hcc.2.2.2.2
    have hwt : ∀ x ∈ c.loads, 0 ≤ x.weight ∧ x.weight ≤ 1000 := fun x hx => by
      obtain ⟨k, hk⟩ := List.getElem?_of_mem hx
      have := hcc.2.2.2.2 k (List.getElem?_eq_some_iff.1 hk).1 x hk
      exact ⟨by have := this.2.1; omega, this.2.2.1⟩
    repeat' (first | (refine idx_sl (k := i) (at_map hci) (by omega) ?_) | refine o1 ?_ | refine o2 ?_ | refine k1 ?_ | refine k2 ?_ | refine k3 ?_ | refine k4 ?_ | refine k6 ?_ | refine k7 ?_ | refine k8 ?_ | refine And.intro ?_ ?_ | exact trivial | refine o3 ?_ | refine o4 ?_ | refine o5 ?_ | refine o6 ?_ | refine k5 ?_ | (intro h; first | exact Bool.noConfusion h | exact nz _ h | exact nl h | (simp at h; done) | (simp at h; first | (exfalso; omega) | skip) | skip) | (change retOk _ _ _ _; refine ret_pure rfl trivial ?_) | exact (rfl : allOne _ = true) | (refine (?_ : (0 : Int) ≤ _); omega) | (refine (?_ : _ ≠ _); omega) | (refine (?_ : srcLen _ = rowsLen _); rfl) | exact Nat.le_of_ble_eq_true rfl | exact (by kernel_rfl : drawOk _ _ = true) | refine eqv_len_map ?_ | refine eqv_size ?_ | refine eqv_put (eqv_ck ?_) | refine eqv_zero ?_ | refine eqv_wrap (by omega) (by omega) ?_ | refine eqv_u64 (by omega) (by omega) ?_ | refine eqv_u8 (by omega) (by omega) ?_ | refine eqv_to _ (set_map rfl rfl) ?_ | refine ⟨_, _, (by first | rfl | assumption), at_map (by assumption), ?_⟩ | refine ⟨_, _, (by first | rfl | assumption), (by assumption), ?_⟩ | refine ⟨_, at_map (by assumption), (by decide), ?_⟩ | refine ⟨_, at_map (by assumption), ?_⟩ | (refine (?_ : _ ≤ 140737488355328); simp [rowsLen] <;> omega) | (refine (?_ : _ ≤ 9223372036854775807); simp [rowsLen] <;> omega) | (refine (?_ : _ = rowsLen _); simp [rowsLen] <;> omega) | refine eqv_to _ (app_row rfl) (eqv_to _ app_len ?_) | refine eqv_to _ (app_first rfl) (eqv_to 1 rfl ?_) | refine idx_sl (at_map (by assumption)) (by omega) ?_ | refine idx_ms _ (by first | rfl | assumption) (by first | assumption | omega) ?_ | fail)
    all_goals try (exfalso; omega)
    refine loop_for (fun k : Nat => [(1, .pv (encInts plan)), (2, .ptr 0 4 0 0), (5, .ms 1 1 0 m.rules.toNat), (11, vint .i64 i), (12, .ptr 2 4 0 0), (13, vint .i64 (loadT plan c.loads k)), (14, vint .i64 k)])
      (fun k => [mdlO m, arrI (runC m (T2 ++ cntsT m plan i)), some ⟨78, 4, false, .box [.pv (ei c.rule), .pv (.sl 3 (c.loads.map Load.row)), .pv (ei c.most), .pv (ei c.penalty)]⟩]) (fun k => k ≤ c.loads.length) (fun k => c.loads.length - k) 0 (Nat.zero_le _) ?_ ?_
    · exact back [0, 1, 2] rfl rfl ⟨rfl, rfl, rfl, trivial⟩ (by repeat' (first | exact trivial | exact rfl | exact ⟨_, rfl, ALe.refl⟩ | refine And.intro ?_ ?_))
    intro k hk
    dsimp only [mdlO, arrI]
    have hlb := loadT_bnd (plan := plan) hwt hk
    rcases Nat.lt_or_ge k c.loads.length with hlt2 | hge2
    · obtain ⟨x, hxk⟩ := getE hlt2
      have hx := hcc.2.2.2.2 k hlt2 x hxk
      obtain ⟨⟨x1, -, lx, x2, -⟩, x3, x4, -⟩ := hx
      obtain ⟨xc, xo, xw⟩ := x
      dsimp only at x1 x2 x3 x4
      obtain ⟨u, rfl⟩ := Int.eq_ofNat_of_zero_le x1
      rw [Int.toNat_natCast] at x2
      have hxl := (List.getElem?_eq_some_iff.1 x2).1
      obtain ⟨o, ho⟩ := getE (show u < plan.length by omega)
      have hit := hit_iff (x := ⟨u, xo, xw⟩) (plan := plan) (o := o) (by dsimp only; rw [Int.toNat_natCast]; exact ho)
      have hsn := loadT_snoc (plan := plan) hxk
      dsimp only at hit hsn
      generalize loadT plan c.loads k = LT at *
      repeat' (first | (refine eqv_to (LT + xw) (show IntKind.i64.wrap (LT + xw) = LT + xw from wrap64 (by omega) (by omega)) ?_) | (refine idx_sl (k := k) (at_map hxk) (by omega) ?_) | (refine idx_sl (k := u) (at_map ho) (by omega) ?_) | refine o1 ?_ | refine o2 ?_ | refine k1 ?_ | refine k2 ?_ | refine k3 ?_ | refine k4 ?_ | refine k6 ?_ | refine k7 ?_ | refine k8 ?_ | refine And.intro ?_ ?_ | exact trivial | refine o3 ?_ | refine o4 ?_ | refine o5 ?_ | refine o6 ?_ | refine k5 ?_ | (intro h; first | exact Bool.noConfusion h | exact nz _ h | exact nl h | (simp at h; done) | (simp at h; first | (exfalso; omega) | skip) | skip) | (change retOk _ _ _ _; refine ret_pure rfl trivial ?_) | exact (rfl : allOne _ = true) | (refine (?_ : (0 : Int) ≤ _); omega) | (refine (?_ : _ ≠ _); omega) | (refine (?_ : srcLen _ = rowsLen _); rfl) | exact Nat.le_of_ble_eq_true rfl | exact (by kernel_rfl : drawOk _ _ = true) | refine eqv_len_map ?_ | refine eqv_size ?_ | refine eqv_put (eqv_ck ?_) | refine eqv_zero ?_ | refine eqv_wrap (by omega) (by omega) ?_ | refine eqv_u64 (by omega) (by omega) ?_ | refine eqv_u8 (by omega) (by omega) ?_ | refine eqv_to _ (set_map rfl rfl) ?_ | refine ⟨_, _, (by first | rfl | assumption), at_map (by assumption), ?_⟩ | refine ⟨_, _, (by first | rfl | assumption), (by assumption), ?_⟩ | refine ⟨_, at_map (by assumption), (by decide), ?_⟩ | refine ⟨_, at_map (by assumption), ?_⟩ | (refine (?_ : _ ≤ 140737488355328); simp [rowsLen] <;> omega) | (refine (?_ : _ ≤ 9223372036854775807); simp [rowsLen] <;> omega) | (refine (?_ : _ = rowsLen _); simp [rowsLen] <;> omega) | refine eqv_to _ (app_row rfl) (eqv_to _ app_len ?_) | refine eqv_to _ (app_first rfl) (eqv_to 1 rfl ?_) | refine idx_sl (at_map (by assumption)) (by omega) ?_ | refine idx_ms _ (by first | rfl | assumption) (by first | assumption | omega) ?_ | fail)
      all_goals first
        | (exfalso; omega)
        | (refine ⟨k + 1, hlt2, by omega, ?_⟩
           rw [pB_t (hit.2 (by omega)), if_pos rfl] at hsn
           rw [hsn]
           exact back [0, 1, 2] rfl rfl ⟨rfl, rfl, rfl, trivial⟩ (by repeat' (first | exact trivial | exact rfl | exact ⟨_, rfl, ALe.refl⟩ | refine And.intro ?_ ?_)))
        | (refine ⟨k + 1, hlt2, by omega, ?_⟩
           rw [pB_f (fun e => absurd (hit.1 e) (by omega)), if_neg (by decide), Int.add_zero] at hsn
           rw [hsn]
           exact back [0, 1, 2] rfl rfl ⟨rfl, rfl, rfl, trivial⟩ (by repeat' (first | exact trivial | exact rfl | exact ⟨_, rfl, ALe.refl⟩ | refine And.intro ?_ ?_)))
    obtain rfl : k = c.loads.length := by omega
    obtain ⟨v, hv, hvb⟩ := run_get (aap hall2 (cntsT_ok g (plan := plan) (n := i))) hcc.1
    have htm := c_timesR (loadT plan c.loads c.loads.length - c.most) c.penalty (by have := hcc.2.1; have := hcc.2.2.1; omega) hcc.2.2.2.1
    have htb := timesC_bnd (n := loadT plan c.loads c.loads.length - c.most) (priceP_bnd hcc.2.2.2.1).1
    have hnx := run_next (T := T2 ++ cntsT m plan i) (c := timesC (loadT plan c.loads c.loads.length - c.most) c.penalty) hv
    have hct : cntT plan c = (c.rule, timesC (loadT plan c.loads c.loads.length - c.most) c.penalty) := rfl
    have hcs := cntsT_snoc (plan := plan) hci
    rw [hct] at hcs
    have hln := run_len (m := m) (T := T2 ++ cntsT m plan i)
    have hstp : T2 ++ cntsT m plan (i + 1) = (T2 ++ cntsT m plan i) ++ [(c.rule, timesC (loadT plan c.loads c.loads.length - c.most) c.penalty)] := by rw [hcs, ← List.append_assoc]
    have hsb : IntKind.i64.wrap (loadT plan c.loads c.loads.length - c.most) = loadT plan c.loads c.loads.length - c.most := wrap64 (by have := hcc.2.1; have := hcc.2.2.1; omega) (by have := hcc.2.1; have := hcc.2.2.1; omega)
    generalize timesC (loadT plan c.loads c.loads.length - c.most) c.penalty = w at *
    obtain ⟨r, hr⟩ := Int.eq_ofNat_of_zero_le hcc.1.1
    rw [hr, Int.toNat_natCast] at hv hnx
    rw [hr] at hstp
    generalize hL : runC m (T2 ++ cntsT m plan i) = L at *
    have hadd := c_addR v w hvb htb
    have hrl := (List.getElem?_eq_some_iff.1 hv).1
    rw [hr]
    generalize loadT plan c.loads c.loads.length = LT at *
    repeat' (first | (refine eqv_to _ hsb ?_) | (refine idx_ms r rfl (by omega) ?_) | (refine ⟨_, at_map hv, ?_⟩) | (refine eqv_to _ (set_map (f := intRow) (y := addC v w) rfl rfl) ?_) | refine o1 ?_ | refine o2 ?_ | refine k1 ?_ | refine k2 ?_ | refine k3 ?_ | refine k4 ?_ | refine k6 ?_ | refine k7 ?_ | refine k8 ?_ | refine And.intro ?_ ?_ | exact trivial | refine o3 ?_ | refine o4 ?_ | refine o5 ?_ | refine o6 ?_ | refine k5 ?_ | (intro h; first | exact Bool.noConfusion h | exact nz _ h | exact nl h | (simp at h; done) | (simp at h; first | (exfalso; omega) | skip) | skip) | (change retOk _ _ _ _; refine ret_pure rfl trivial ?_) | exact (rfl : allOne _ = true) | (refine (?_ : (0 : Int) ≤ _); omega) | (refine (?_ : _ ≠ _); omega) | (refine (?_ : srcLen _ = rowsLen _); rfl) | exact Nat.le_of_ble_eq_true rfl | exact (by kernel_rfl : drawOk _ _ = true) | refine eqv_len_map ?_ | refine eqv_size ?_ | refine eqv_put (eqv_ck ?_) | refine eqv_zero ?_ | refine eqv_wrap (by omega) (by omega) ?_ | refine eqv_u64 (by omega) (by omega) ?_ | refine eqv_u8 (by omega) (by omega) ?_ | refine eqv_to _ (set_map rfl rfl) ?_ | refine ⟨_, _, (by first | rfl | assumption), at_map (by assumption), ?_⟩ | refine ⟨_, _, (by first | rfl | assumption), (by assumption), ?_⟩ | refine ⟨_, at_map (by assumption), (by decide), ?_⟩ | refine ⟨_, at_map (by assumption), ?_⟩ | (refine (?_ : _ ≤ 140737488355328); simp [rowsLen] <;> omega) | (refine (?_ : _ ≤ 9223372036854775807); simp [rowsLen] <;> omega) | (refine (?_ : _ = rowsLen _); simp [rowsLen] <;> omega) | refine eqv_to _ (app_row rfl) (eqv_to _ app_len ?_) | refine eqv_to _ (app_first rfl) (eqv_to 1 rfl ?_) | refine idx_sl (at_map (by assumption)) (by omega) ?_ | refine idx_ms _ (by first | rfl | assumption) (by first | assumption | omega) ?_ | (change vcFunD _ _ _ _ _; refine callD_eq rfl (by repeat' (first | trivial | refine And.intro ?_ ?_ | (show 0 + _ ≤ List.length _; simp))) ALeL.refl (htm) rfl ?_) | (change vcFunD _ _ _ _ _; refine callD_eq rfl (by repeat' (first | trivial | refine And.intro ?_ ?_ | (show 0 + _ ≤ List.length _; simp))) ALeL.refl (hadd) rfl ?_) | fail)
    all_goals first
      | exact ⟨i + 1, hlt, by omega, (by rw [hstp, ← hnx]; exact back [0, 1] rfl rfl ⟨rfl, rfl, trivial⟩ (by repeat' (first | exact trivial | exact rfl | exact ⟨_, rfl, ALe.refl⟩ | refine And.intro ?_ ?_)))⟩
  obtain rfl : i = m.counts.length := by omega
  have hln := run_len (m := m) (T := T2 ++ cntsT m plan m.counts.length)
  generalize runC m (T2 ++ cntsT m plan m.counts.length) = RV at *
  repeat' (first | refine o1 ?_ | refine o2 ?_ | refine k1 ?_ | refine k2 ?_ | refine k3 ?_ | refine k4 ?_ | refine k6 ?_ | refine k7 ?_ | refine k8 ?_ | refine And.intro ?_ ?_ | exact trivial | refine o3 ?_ | refine o4 ?_ | refine o5 ?_ | refine o6 ?_ | refine k5 ?_ | (intro h; first | exact Bool.noConfusion h | exact nz _ h | exact nl h | (simp at h; done) | (simp at h; first | (exfalso; omega) | skip) | skip) | (change retOk _ _ _ _; refine ret_pure rfl trivial ?_) | exact (rfl : allOne _ = true) | (refine (?_ : (0 : Int) ≤ _); omega) | (refine (?_ : _ ≠ _); omega) | (refine (?_ : srcLen _ = rowsLen _); rfl) | exact Nat.le_of_ble_eq_true rfl | exact (by kernel_rfl : drawOk _ _ = true) | refine eqv_len_map ?_ | refine eqv_size ?_ | refine eqv_put (eqv_ck ?_) | refine eqv_zero ?_ | refine eqv_wrap (by omega) (by omega) ?_ | refine eqv_u64 (by omega) (by omega) ?_ | refine eqv_u8 (by omega) (by omega) ?_ | refine eqv_to _ (set_map rfl rfl) ?_ | refine ⟨_, _, (by first | rfl | assumption), at_map (by assumption), ?_⟩ | refine ⟨_, _, (by first | rfl | assumption), (by assumption), ?_⟩ | refine ⟨_, at_map (by assumption), (by decide), ?_⟩ | refine ⟨_, at_map (by assumption), ?_⟩ | (refine (?_ : _ ≤ 140737488355328); simp [rowsLen] <;> omega) | (refine (?_ : _ ≤ 9223372036854775807); simp [rowsLen] <;> omega) | (refine (?_ : _ = rowsLen _); simp [rowsLen] <;> omega) | refine eqv_to _ (app_row rfl) (eqv_to _ app_len ?_) | refine eqv_to _ (app_first rfl) (eqv_to 1 rfl ?_) | refine idx_sl (at_map (by assumption)) (by omega) ?_ | refine idx_ms _ (by first | rfl | assumption) (by first | assumption | omega) ?_ | fail)
  all_goals try (exfalso; omega)
  refine ret_pure (r0 := .pv (.sl 1 (((RV.map intRow).drop 0).take m.rules.toNat))) rfl ?_ ?_
  · show 0 + m.rules.toNat ≤ _
    rw [List.length_map]; omega
  · rw [List.drop_zero, List.take_of_length_le (by rw [List.length_map]; omega)]
end Go.Proofs.YtihpjcmloecaaaaGreat.Cw
/-
  Costs of plans by the reference: Cost.
-/
namespace Go.Proofs.YtihpjcmloecaaaaGreat.Cw
open Go Go.Cw Go.Proofs
set_option linter.unusedVariables false
set_option maxRecDepth 100000
set_option maxHeartbeats 8000000
theorem plan_isP {m : Model} {plan : List Int} (hp : plannedP m plan) : isPlanP m plan :=
  ⟨hp.1, fun j hj o l ho hl => (opt_iff hl).1 (hp.2 j hj o ho)⟩
theorem c_rcostP (m : Model) (plan : List Int) (h0 : modelE m = 0) (hl : Laid m) (hp : plannedP m plan) : PCall Tryz.prog 29 [ag m.cells, .pv (encInts plan)] (fun r => r = .tup [vint .i64 (costV m plan), .pv (.sl 1 ((rulesV m plan).map intRow)), vint .i64 0]) := by
  have hv := c_rvalid m hl
  rw [h0] at hv
  have hpl := c_rpart m plan (model_sized h0)
  rw [pB_t (plan_isP hp)] at hpl
  have hc := c_rrules m plan h0 hl hp
  have g := model_good h0
  have hrb := rules_bnd g (plan := plan)
  have hln : (rulesV m plan).length = m.rules.toNat := run_len
  have hcv : costV m plan = totalV (rulesV m plan) (rulesV m plan).length := rfl
  rw [hcv]
  generalize rulesV m plan = RV at *
  have hru := (model_sized h0).2.2.2.2
  refine acall_of tok mixed 37 rfl (fn := Tryz.f29) (c := Tryz.f29.body.getD .skip) (by kernel_rfl) (by kernel_rfl) (by kernel_rfl) rfl 0 rfl ?_
  repeat' (first | ((change vcFun _ _ _ _ _; refine call_frz rfl (by repeat' (first | trivial | refine And.intro ?_ ?_ | (show 0 + _ ≤ List.length _; simp))) ALeL.refl hc ?_; rintro _ rfl)) | refine o1 ?_ | refine o2 ?_ | refine k1 ?_ | refine k2 ?_ | refine k3 ?_ | refine k4 ?_ | refine k6 ?_ | refine k7 ?_ | refine k8 ?_ | refine And.intro ?_ ?_ | exact trivial | refine o3 ?_ | refine o4 ?_ | refine o5 ?_ | refine o6 ?_ | refine k5 ?_ | (intro h; first | exact Bool.noConfusion h | exact nz _ h | exact nl h | (simp at h; done) | (simp at h; first | (exfalso; omega) | skip) | skip) | (change retOk _ _ _ _; refine ret_pure rfl trivial ?_) | exact (rfl : allOne _ = true) | (refine (?_ : (0 : Int) ≤ _); omega) | (refine (?_ : _ ≠ _); omega) | (refine (?_ : srcLen _ = rowsLen _); rfl) | exact Nat.le_of_ble_eq_true rfl | exact (by kernel_rfl : drawOk _ _ = true) | refine eqv_len_map ?_ | refine eqv_size ?_ | refine eqv_put (eqv_ck ?_) | refine eqv_zero ?_ | refine eqv_wrap (by omega) (by omega) ?_ | refine eqv_u64 (by omega) (by omega) ?_ | refine eqv_u8 (by omega) (by omega) ?_ | refine eqv_to _ (set_map rfl rfl) ?_ | refine ⟨_, _, (by first | rfl | assumption), at_map (by assumption), ?_⟩ | refine ⟨_, _, (by first | rfl | assumption), (by assumption), ?_⟩ | refine ⟨_, at_map (by assumption), (by decide), ?_⟩ | refine ⟨_, at_map (by assumption), ?_⟩ | (refine (?_ : _ ≤ 140737488355328); simp [rowsLen] <;> omega) | (refine (?_ : _ ≤ 9223372036854775807); simp [rowsLen] <;> omega) | (refine (?_ : _ = rowsLen _); simp [rowsLen] <;> omega) | refine eqv_to _ (app_row rfl) (eqv_to _ app_len ?_) | refine eqv_to _ (app_first rfl) (eqv_to 1 rfl ?_) | refine idx_sl (at_map (by assumption)) (by omega) ?_ | refine idx_ms _ (by first | rfl | assumption) (by first | assumption | omega) ?_ | (change vcFun _ _ _ _ _; refine call_eq rfl (by repeat' (first | trivial | refine And.intro ?_ ?_ | (show 0 + _ ≤ List.length _; simp))) ALeL.refl (hv) rfl ?_) | (change vcFun _ _ _ _ _; refine call_eq rfl (by repeat' (first | trivial | refine And.intro ?_ ?_ | (show 0 + _ ≤ List.length _; simp))) ALeL.refl (hpl) rfl ?_) | fail)
  refine loop_for (fun i : Nat => [(8, .pv (.sl 1 (RV.map intRow))), (9, vint .i64 (totalV RV i)), (10, vint .i64 i)]) (fun i => [none]) (fun i => i ≤ RV.length) (fun i => RV.length - i) 0 (Nat.zero_le _) ?_ ?_
  · exact back [0] rfl rfl trivial (by repeat' (first | exact trivial | exact rfl | exact ⟨_, rfl, ALe.refl⟩ | refine And.intro ?_ ?_))
  intro i hi
  have htb := total_bnd hrb hi
  rcases Nat.lt_or_ge i RV.length with hlt | hge
  · obtain ⟨n, hn⟩ := getE hlt
    have hnb := hrb n (List.mem_of_getElem? hn)
    have hsm := c_addR (totalV RV i) n htb hnb
    rw [← total_snoc hn] at hsm
    repeat' (first | (refine idx_sl (k := i) (at_map hn) (by omega) ?_) | refine o1 ?_ | refine o2 ?_ | refine k1 ?_ | refine k2 ?_ | refine k3 ?_ | refine k4 ?_ | refine k6 ?_ | refine k7 ?_ | refine k8 ?_ | refine And.intro ?_ ?_ | exact trivial | refine o3 ?_ | refine o4 ?_ | refine o5 ?_ | refine o6 ?_ | refine k5 ?_ | (intro h; first | exact Bool.noConfusion h | exact nz _ h | exact nl h | (simp at h; done) | (simp at h; first | (exfalso; omega) | skip) | skip) | (change retOk _ _ _ _; refine ret_pure rfl trivial ?_) | exact (rfl : allOne _ = true) | (refine (?_ : (0 : Int) ≤ _); omega) | (refine (?_ : _ ≠ _); omega) | (refine (?_ : srcLen _ = rowsLen _); rfl) | exact Nat.le_of_ble_eq_true rfl | exact (by kernel_rfl : drawOk _ _ = true) | refine eqv_len_map ?_ | refine eqv_size ?_ | refine eqv_put (eqv_ck ?_) | refine eqv_zero ?_ | refine eqv_wrap (by omega) (by omega) ?_ | refine eqv_u64 (by omega) (by omega) ?_ | refine eqv_u8 (by omega) (by omega) ?_ | refine eqv_to _ (set_map rfl rfl) ?_ | refine ⟨_, _, (by first | rfl | assumption), at_map (by assumption), ?_⟩ | refine ⟨_, _, (by first | rfl | assumption), (by assumption), ?_⟩ | refine ⟨_, at_map (by assumption), (by decide), ?_⟩ | refine ⟨_, at_map (by assumption), ?_⟩ | (refine (?_ : _ ≤ 140737488355328); simp [rowsLen] <;> omega) | (refine (?_ : _ ≤ 9223372036854775807); simp [rowsLen] <;> omega) | (refine (?_ : _ = rowsLen _); simp [rowsLen] <;> omega) | refine eqv_to _ (app_row rfl) (eqv_to _ app_len ?_) | refine eqv_to _ (app_first rfl) (eqv_to 1 rfl ?_) | refine idx_sl (at_map (by assumption)) (by omega) ?_ | refine idx_ms _ (by first | rfl | assumption) (by first | assumption | omega) ?_ | (change vcFun _ _ _ _ _; refine call_eq rfl (by repeat' (first | trivial | refine And.intro ?_ ?_ | (show 0 + _ ≤ List.length _; simp))) ALeL.refl (hsm) rfl ?_) | fail)
    all_goals first
      | (exfalso; omega)
      | exact ⟨i + 1, hlt, by omega, back [0] rfl rfl trivial (by repeat' (first | exact trivial | exact rfl | exact ⟨_, rfl, ALe.refl⟩ | refine And.intro ?_ ?_))⟩
  obtain rfl : i = RV.length := by omega
  repeat' (first | refine o1 ?_ | refine o2 ?_ | refine k1 ?_ | refine k2 ?_ | refine k3 ?_ | refine k4 ?_ | refine k6 ?_ | refine k7 ?_ | refine k8 ?_ | refine And.intro ?_ ?_ | exact trivial | refine o3 ?_ | refine o4 ?_ | refine o5 ?_ | refine o6 ?_ | refine k5 ?_ | (intro h; first | exact Bool.noConfusion h | exact nz _ h | exact nl h | (simp at h; done) | (simp at h; first | (exfalso; omega) | skip) | skip) | (change retOk _ _ _ _; refine ret_pure rfl trivial ?_) | exact (rfl : allOne _ = true) | (refine (?_ : (0 : Int) ≤ _); omega) | (refine (?_ : _ ≠ _); omega) | (refine (?_ : srcLen _ = rowsLen _); rfl) | exact Nat.le_of_ble_eq_true rfl | exact (by kernel_rfl : drawOk _ _ = true) | refine eqv_len_map ?_ | refine eqv_size ?_ | refine eqv_put (eqv_ck ?_) | refine eqv_zero ?_ | refine eqv_wrap (by omega) (by omega) ?_ | refine eqv_u64 (by omega) (by omega) ?_ | refine eqv_u8 (by omega) (by omega) ?_ | refine eqv_to _ (set_map rfl rfl) ?_ | refine ⟨_, _, (by first | rfl | assumption), at_map (by assumption), ?_⟩ | refine ⟨_, _, (by first | rfl | assumption), (by assumption), ?_⟩ | refine ⟨_, at_map (by assumption), (by decide), ?_⟩ | refine ⟨_, at_map (by assumption), ?_⟩ | (refine (?_ : _ ≤ 140737488355328); simp [rowsLen] <;> omega) | (refine (?_ : _ ≤ 9223372036854775807); simp [rowsLen] <;> omega) | (refine (?_ : _ = rowsLen _); simp [rowsLen] <;> omega) | refine eqv_to _ (app_row rfl) (eqv_to _ app_len ?_) | refine eqv_to _ (app_first rfl) (eqv_to 1 rfl ?_) | refine idx_sl (at_map (by assumption)) (by omega) ?_ | refine idx_ms _ (by first | rfl | assumption) (by first | assumption | omega) ?_ | fail)
  all_goals first
    | (exfalso; omega)
    | rfl
end Go.Proofs.YtihpjcmloecaaaaGreat.Cw
/-
  All complete plans of a small model.
-/
namespace Go.Proofs.YtihpjcmloecaaaaGreat.Cw
open Go Go.Cw Go.Proofs
set_option linter.unusedVariables false
set_option maxRecDepth 100000
set_option maxHeartbeats 8000000
def prodL : List Nat → Nat
  | [] => 1
  | c :: t => c * prodL t
theorem prod_app {c : Nat} : ∀ {a : List Nat}, prodL (a ++ [c]) = prodL a * c
  | [] => by simp [prodL]
  | x :: a => by show x * prodL (a ++ [c]) = x * prodL a * c; rw [prod_app, Nat.mul_assoc]
theorem prod_le : ∀ {a : List Nat}, (∀ c ∈ a, c ≤ 7) → prodL a ≤ 7 ^ a.length
  | [], _ => Nat.le_refl _
  | x :: a, h => by
    have := prod_le (a := a) fun c hc => h c (List.mem_cons_of_mem _ hc)
    show x * prodL a ≤ 7 ^ (a.length + 1)
    rw [Nat.pow_succ, Nat.mul_comm]
    exact Nat.mul_le_mul this (h x (List.mem_cons_self ..))
def caseL : List Nat → Nat → List Int
  | [], _ => []
  | c :: t, n => ((n % c : Nat) : Int) :: caseL t (n / c)
def restL : List Nat → Nat → Nat
  | [], n => n
  | c :: t, n => restL t (n / c)
theorem case_app {c : Nat} : ∀ {a : List Nat} {n : Nat}, caseL (a ++ [c]) n = caseL a n ++ [((restL a n % c : Nat) : Int)]
  | [], _ => rfl
  | x :: a, n => congrArg (((n % x : Nat) : Int) :: ·) (case_app (a := a) (n := n / x))
theorem rest_app {c : Nat} : ∀ {a : List Nat} {n : Nat}, restL (a ++ [c]) n = restL a n / c
  | [], _ => rfl
  | x :: a, n => rest_app (a := a)
theorem case_len : ∀ {a : List Nat} {n : Nat}, (caseL a n).length = a.length
  | [], _ => rfl
  | x :: a, n => congrArg (· + 1) (case_len (a := a))
theorem rest_le : ∀ {a : List Nat} {n : Nat}, restL a n ≤ n
  | [], _ => Nat.le_refl _
  | x :: a, n => Nat.le_trans (rest_le (a := a)) (Nat.div_le_self _ _)
theorem case_at : ∀ {a : List Nat} {n j : Nat} {o : Int} {c : Nat}, (caseL a n)[j]? = some o → a[j]? = some c → 1 ≤ c → 0 ≤ o ∧ o < c
  | [], _, j, _, _, _, h, _ => by simp at h
  | x :: a, n, 0, o, c, h1, h2, h3 => by
    obtain rfl : x = c := Option.some.inj h2
    obtain rfl : ((n % x : Nat) : Int) = o := Option.some.inj h1
    have := Nat.mod_lt n (show 0 < x by omega)
    omega
  | x :: a, n, j + 1, o, c, h1, h2, h3 => case_at (a := a) (n := n / x) (j := j) h1 h2 h3
theorem case_on : ∀ {a : List Nat} {p : List Int}, p.length = a.length → (∀ (j : Nat) (o : Int) (c : Nat), p[j]? = some o → a[j]? = some c → 0 ≤ o ∧ o < c) → ∃ k, k < prodL a ∧ caseL a k = p
  | [], [], _, _ => ⟨0, Nat.zero_lt_one, rfl⟩
  | c :: a, o :: p, h, hb => by
    obtain ⟨k, h1, h2⟩ := case_on (a := a) (p := p) (by simpa using h) fun j o c e1 e2 => hb (j + 1) o c e1 e2
    obtain ⟨g1, g2⟩ := hb 0 o c rfl rfl
    obtain ⟨u, rfl⟩ := Int.eq_ofNat_of_zero_le g1
    have g3 : u < c := by omega
    refine ⟨u + c * k, ?_, ?_⟩
    · show _ < c * prodL a
      have : c * (k + 1) ≤ c * prodL a := Nat.mul_le_mul (Nat.le_refl _) h1
      rw [Nat.mul_succ] at this
      omega
    · show (((u + c * k) % c : Nat) : Int) :: caseL a ((u + c * k) / c) = _
      rw [Nat.add_mul_mod_self_left, Nat.mod_eq_of_lt (by omega), Nat.add_mul_div_left _ _ (by omega), Nat.div_eq_of_lt (by omega), Nat.zero_add, h2]
def lensV (m : Model) : List Nat := m.classes.map List.length
theorem lens_take {m : Model} {i : Nat} {l : List Opt} (h : m.classes[i]? = some l) : (lensV m).take (i + 1) = (lensV m).take i ++ [l.length] := take_snoc (by unfold lensV; rw [List.getElem?_map, h]; rfl)
theorem c_cases (m : Model) (h3 : m.classes.length ≤ 3) (h7 : ∀ l ∈ m.classes, l.length ≤ 7) : PCall Tryz.prog 27 [ag m.cells] (fun r => r = vint .i64 (prodL (lensV m))) := by
  have hpb : ∀ i, i ≤ 3 → prodL ((lensV m).take i) ≤ 343 := fun i hi => by
    have := prod_le (a := (lensV m).take i) fun c hc => by
      obtain ⟨l, hl, rfl⟩ := List.mem_map.1 (List.mem_of_mem_take hc)
      exact h7 l hl
    refine Nat.le_trans this (Nat.le_trans (Nat.pow_le_pow_right (by omega) (show _ ≤ 3 by rw [List.length_take]; omega)) (by decide))
  refine acall_of tok mixed 26 rfl (fn := Tryz.f27) (c := Tryz.f27.body.getD .skip) (by kernel_rfl) (by kernel_rfl) (by kernel_rfl) rfl 0 rfl ?_
  repeat' (first | refine o1 ?_ | refine o2 ?_ | refine k1 ?_ | refine k2 ?_ | refine k3 ?_ | refine k4 ?_ | refine k6 ?_ | refine k7 ?_ | refine k8 ?_ | refine And.intro ?_ ?_ | exact trivial | refine o3 ?_ | refine o4 ?_ | refine o5 ?_ | refine o6 ?_ | refine k5 ?_ | (intro h; first | exact Bool.noConfusion h | exact nz _ h | exact nl h | (simp at h; done) | (simp at h; first | (exfalso; omega) | skip) | skip) | (change retOk _ _ _ _; refine ret_pure rfl trivial ?_) | exact (rfl : allOne _ = true) | (refine (?_ : (0 : Int) ≤ _); omega) | (refine (?_ : _ ≠ _); omega) | (refine (?_ : srcLen _ = rowsLen _); rfl) | exact Nat.le_of_ble_eq_true rfl | exact (by kernel_rfl : drawOk _ _ = true) | refine eqv_len_map ?_ | refine eqv_size ?_ | refine eqv_put (eqv_ck ?_) | refine eqv_zero ?_ | refine eqv_wrap (by omega) (by omega) ?_ | refine eqv_u64 (by omega) (by omega) ?_ | refine eqv_u8 (by omega) (by omega) ?_ | refine eqv_to _ (set_map rfl rfl) ?_ | refine ⟨_, _, (by first | rfl | assumption), at_map (by assumption), ?_⟩ | refine ⟨_, _, (by first | rfl | assumption), (by assumption), ?_⟩ | refine ⟨_, at_map (by assumption), (by decide), ?_⟩ | refine ⟨_, at_map (by assumption), ?_⟩ | (refine (?_ : _ ≤ 140737488355328); simp [rowsLen] <;> omega) | (refine (?_ : _ ≤ 9223372036854775807); simp [rowsLen] <;> omega) | (refine (?_ : _ = rowsLen _); simp [rowsLen] <;> omega) | refine eqv_to _ (app_row rfl) (eqv_to _ app_len ?_) | refine eqv_to _ (app_first rfl) (eqv_to 1 rfl ?_) | refine idx_sl (at_map (by assumption)) (by omega) ?_ | refine idx_ms _ (by first | rfl | assumption) (by first | assumption | omega) ?_ | fail)
  refine loop_for (fun i : Nat => [(1, .ptr 0 4 0 0), (3, vint .i64 (prodL ((lensV m).take i))), (4, vint .i64 i)]) (fun i => [mdlO m]) (fun i => i ≤ m.classes.length) (fun i => m.classes.length - i) 0 (Nat.zero_le _) ?_ ?_
  · exact back [0] rfl rfl ⟨rfl, trivial⟩ (by repeat' (first | exact trivial | exact rfl | exact ⟨_, rfl, ALe.refl⟩ | refine And.intro ?_ ?_))
  intro i hi
  dsimp only [mdlO]
  have hp1 := hpb i (by omega)
  rcases Nat.lt_or_ge i m.classes.length with hlt | hge
  · obtain ⟨l, hl⟩ := getE hlt
    have hp2 := hpb (i + 1) (by omega)
    rw [lens_take hl, prod_app] at hp2
    have hl7 := h7 l (List.mem_of_getElem? hl)
    have hsn : prodL ((lensV m).take (i + 1)) = prodL ((lensV m).take i) * l.length := by rw [lens_take hl, prod_app]
    generalize prodL ((lensV m).take i) = P at *
    have hw : IntKind.i64.wrap ((P : Int) * (l.length : Int)) = ((P * l.length : Nat) : Int) := by
      rw [← Int.natCast_mul]; exact wrap64 (by omega) (by omega)
    repeat' (first | (refine idx_sl (k := i) (at_map hl) (by omega) ?_) | (refine eqv_to _ hw ?_) | refine o1 ?_ | refine o2 ?_ | refine k1 ?_ | refine k2 ?_ | refine k3 ?_ | refine k4 ?_ | refine k6 ?_ | refine k7 ?_ | refine k8 ?_ | refine And.intro ?_ ?_ | exact trivial | refine o3 ?_ | refine o4 ?_ | refine o5 ?_ | refine o6 ?_ | refine k5 ?_ | (intro h; first | exact Bool.noConfusion h | exact nz _ h | exact nl h | (simp at h; done) | (simp at h; first | (exfalso; omega) | skip) | skip) | (change retOk _ _ _ _; refine ret_pure rfl trivial ?_) | exact (rfl : allOne _ = true) | (refine (?_ : (0 : Int) ≤ _); omega) | (refine (?_ : _ ≠ _); omega) | (refine (?_ : srcLen _ = rowsLen _); rfl) | exact Nat.le_of_ble_eq_true rfl | exact (by kernel_rfl : drawOk _ _ = true) | refine eqv_len_map ?_ | refine eqv_size ?_ | refine eqv_put (eqv_ck ?_) | refine eqv_zero ?_ | refine eqv_wrap (by omega) (by omega) ?_ | refine eqv_u64 (by omega) (by omega) ?_ | refine eqv_u8 (by omega) (by omega) ?_ | refine eqv_to _ (set_map rfl rfl) ?_ | refine ⟨_, _, (by first | rfl | assumption), at_map (by assumption), ?_⟩ | refine ⟨_, _, (by first | rfl | assumption), (by assumption), ?_⟩ | refine ⟨_, at_map (by assumption), (by decide), ?_⟩ | refine ⟨_, at_map (by assumption), ?_⟩ | (refine (?_ : _ ≤ 140737488355328); simp [rowsLen] <;> omega) | (refine (?_ : _ ≤ 9223372036854775807); simp [rowsLen] <;> omega) | (refine (?_ : _ = rowsLen _); simp [rowsLen] <;> omega) | refine eqv_to _ (app_row rfl) (eqv_to _ app_len ?_) | refine eqv_to _ (app_first rfl) (eqv_to 1 rfl ?_) | refine idx_sl (at_map (by assumption)) (by omega) ?_ | refine idx_ms _ (by first | rfl | assumption) (by first | assumption | omega) ?_ | fail)
    all_goals first
      | (exfalso; omega)
      | exact ⟨i + 1, hlt, by omega, (by rw [hsn]; exact back [0] rfl rfl ⟨rfl, trivial⟩ (by repeat' (first | exact trivial | exact rfl | exact ⟨_, rfl, ALe.refl⟩ | refine And.intro ?_ ?_)))⟩
  obtain rfl : i = m.classes.length := by omega
  have ht : (lensV m).take m.classes.length = lensV m := List.take_of_length_le (by unfold lensV; rw [List.length_map]; omega)
  rw [ht] at hp1 ⊢
  repeat' (first | refine o1 ?_ | refine o2 ?_ | refine k1 ?_ | refine k2 ?_ | refine k3 ?_ | refine k4 ?_ | refine k6 ?_ | refine k7 ?_ | refine k8 ?_ | refine And.intro ?_ ?_ | exact trivial | refine o3 ?_ | refine o4 ?_ | refine o5 ?_ | refine o6 ?_ | refine k5 ?_ | (intro h; first | exact Bool.noConfusion h | exact nz _ h | exact nl h | (simp at h; done) | (simp at h; first | (exfalso; omega) | skip) | skip) | (change retOk _ _ _ _; refine ret_pure rfl trivial ?_) | exact (rfl : allOne _ = true) | (refine (?_ : (0 : Int) ≤ _); omega) | (refine (?_ : _ ≠ _); omega) | (refine (?_ : srcLen _ = rowsLen _); rfl) | exact Nat.le_of_ble_eq_true rfl | exact (by kernel_rfl : drawOk _ _ = true) | refine eqv_len_map ?_ | refine eqv_size ?_ | refine eqv_put (eqv_ck ?_) | refine eqv_zero ?_ | refine eqv_wrap (by omega) (by omega) ?_ | refine eqv_u64 (by omega) (by omega) ?_ | refine eqv_u8 (by omega) (by omega) ?_ | refine eqv_to _ (set_map rfl rfl) ?_ | refine ⟨_, _, (by first | rfl | assumption), at_map (by assumption), ?_⟩ | refine ⟨_, _, (by first | rfl | assumption), (by assumption), ?_⟩ | refine ⟨_, at_map (by assumption), (by decide), ?_⟩ | refine ⟨_, at_map (by assumption), ?_⟩ | (refine (?_ : _ ≤ 140737488355328); simp [rowsLen] <;> omega) | (refine (?_ : _ ≤ 9223372036854775807); simp [rowsLen] <;> omega) | (refine (?_ : _ = rowsLen _); simp [rowsLen] <;> omega) | refine eqv_to _ (app_row rfl) (eqv_to _ app_len ?_) | refine eqv_to _ (app_first rfl) (eqv_to 1 rfl ?_) | refine idx_sl (at_map (by assumption)) (by omega) ?_ | refine idx_ms _ (by first | rfl | assumption) (by first | assumption | omega) ?_ | fail)
  all_goals first
    | (exfalso; omega)
    | (refine congrArg (vint .i64) ?_; simp only [cond_false]; rw [if_neg (by omega)])
theorem c_case (m : Model) (k : Nat) (h3 : m.classes.length ≤ 3) (h7 : ∀ l ∈ m.classes, l.length ≤ 7) (h1 : ∀ l ∈ m.classes, 1 ≤ l.length) (hk : k ≤ 1000000) : PCall Tryz.prog 28 [ag m.cells, vint .i64 k] (fun r => r = .pv (encInts (caseL (lensV m) k))) := by
  refine acall_of tok mixed 32 rfl (fn := Tryz.f28) (c := Tryz.f28.body.getD .skip) (by kernel_rfl) (by kernel_rfl) (by kernel_rfl) rfl 0 rfl ?_
  repeat' (first | refine o1 ?_ | refine o2 ?_ | refine k1 ?_ | refine k2 ?_ | refine k3 ?_ | refine k4 ?_ | refine k6 ?_ | refine k7 ?_ | refine k8 ?_ | refine And.intro ?_ ?_ | exact trivial | refine o3 ?_ | refine o4 ?_ | refine o5 ?_ | refine o6 ?_ | refine k5 ?_ | (intro h; first | exact Bool.noConfusion h | exact nz _ h | exact nl h | (simp at h; done) | (simp at h; first | (exfalso; omega) | skip) | skip) | (change retOk _ _ _ _; refine ret_pure rfl trivial ?_) | exact (rfl : allOne _ = true) | (refine (?_ : (0 : Int) ≤ _); omega) | (refine (?_ : _ ≠ _); omega) | (refine (?_ : srcLen _ = rowsLen _); rfl) | exact Nat.le_of_ble_eq_true rfl | exact (by kernel_rfl : drawOk _ _ = true) | refine eqv_len_map ?_ | refine eqv_size ?_ | refine eqv_put (eqv_ck ?_) | refine eqv_zero ?_ | refine eqv_wrap (by omega) (by omega) ?_ | refine eqv_u64 (by omega) (by omega) ?_ | refine eqv_u8 (by omega) (by omega) ?_ | refine eqv_to _ (set_map rfl rfl) ?_ | refine ⟨_, _, (by first | rfl | assumption), at_map (by assumption), ?_⟩ | refine ⟨_, _, (by first | rfl | assumption), (by assumption), ?_⟩ | refine ⟨_, at_map (by assumption), (by decide), ?_⟩ | refine ⟨_, at_map (by assumption), ?_⟩ | (refine (?_ : _ ≤ 140737488355328); simp [rowsLen] <;> omega) | (refine (?_ : _ ≤ 9223372036854775807); simp [rowsLen] <;> omega) | (refine (?_ : _ = rowsLen _); simp [rowsLen] <;> omega) | refine eqv_to _ (app_row rfl) (eqv_to _ app_len ?_) | refine eqv_to _ (app_first rfl) (eqv_to 1 rfl ?_) | refine idx_sl (at_map (by assumption)) (by omega) ?_ | refine idx_ms _ (by first | rfl | assumption) (by first | assumption | omega) ?_ | fail)
  refine loop_for (fun i : Nat => [(1, vint .i64 (restL ((lensV m).take i) k)), (2, .ptr 0 4 0 0), (5, slP 1 1 ((caseL ((lensV m).take i) k).map intRow)), (6, vint .i64 i)]) (fun i => [mdlO m, obP 3 1 ((caseL ((lensV m).take i) k).map intRow)]) (fun i => i ≤ m.classes.length) (fun i => m.classes.length - i) 0 (Nat.zero_le _) ?_ ?_
  · exact back [0, 1] rfl rfl (by repeat' (first | exact trivial | exact rfl | exact ren_get rfl | refine kept_ob rfl ?_ | refine kept_bx ren_bx0 rfl ?_ | refine kept_bx ren_bx3 rfl ?_ | refine kept_bx ren_bx1 rfl ?_ | exact ⟨_, rfl, ALe.refl⟩ | refine And.intro ?_ ?_)) (by repeat' (first | exact trivial | exact rfl | exact ren_get rfl | refine kept_ob rfl ?_ | refine kept_bx ren_bx0 rfl ?_ | refine kept_bx ren_bx3 rfl ?_ | refine kept_bx ren_bx1 rfl ?_ | exact ⟨_, rfl, ALe.refl⟩ | refine And.intro ?_ ?_))
  intro i hi
  dsimp only [mdlO]
  rcases Nat.lt_or_ge i m.classes.length with hlt | hge
  · obtain ⟨l, hl⟩ := getE hlt
    have hl7 := h7 l (List.mem_of_getElem? hl)
    have hl1 := h1 l (List.mem_of_getElem? hl)
    have hsn : caseL ((lensV m).take (i + 1)) k = caseL ((lensV m).take i) k ++ [((restL ((lensV m).take i) k % l.length : Nat) : Int)] := by rw [lens_take hl, case_app]
    have hsr : restL ((lensV m).take (i + 1)) k = restL ((lensV m).take i) k / l.length := by rw [lens_take hl, rest_app]
    have hrk := rest_le (a := (lensV m).take i) (n := k)
    have hcl := case_len (a := (lensV m).take i) (n := k)
    rw [List.length_take] at hcl
    generalize restL ((lensV m).take i) k = R at *
    generalize caseL ((lensV m).take i) k = L at *
    have hm := c_mod R l.length (by omega)
    have hme : modI R l.length = ((R % l.length : Nat) : Int) := by unfold modI; rw [if_neg (by omega)]; rfl
    rw [hme] at hm
    have hd : IntKind.i64.wrap ((R : Int).tdiv (bif true then if (1 : Int) > (l.length : Int) then 1 else (l.length : Int) else if (1 : Int) < (l.length : Int) then 1 else (l.length : Int))) = ((R / l.length : Nat) : Int) := by
      have := Nat.div_le_self R l.length
      rw [cond_true, if_neg (by omega), Int.tdiv_eq_ediv_of_nonneg (by omega), ← Int.natCast_ediv]; exact wrap64 (by omega) (by omega)
    have hb1 : ((L.map intRow).length + 1) * 8 ≤ 140737488355328 := by rw [List.length_map]; omega
    have hb2 : (L.map intRow).length + 1 ≤ 9223372036854775807 := by rw [List.length_map]; omega
    repeat' (first | (refine fv_sl ?_) | (refine fh_ob ?_) | (refine idx_sl (k := i) (at_map hl) (by omega) ?_) | ((refine o_app rfl rfl rfl rfl rfl rfl rfl rfl rfl rfl rfl hb1 hb2 ?_)) | (refine eqv_to _ hd ?_) | refine o1 ?_ | refine o2 ?_ | refine k1 ?_ | refine k2 ?_ | refine k3 ?_ | refine k4 ?_ | refine k6 ?_ | refine k7 ?_ | refine k8 ?_ | refine And.intro ?_ ?_ | exact trivial | refine o3 ?_ | refine o4 ?_ | refine o5 ?_ | refine o6 ?_ | refine k5 ?_ | (intro h; first | exact Bool.noConfusion h | exact nz _ h | exact nl h | (simp at h; done) | (simp at h; first | (exfalso; omega) | skip) | skip) | (change retOk _ _ _ _; refine ret_pure rfl trivial ?_) | exact (rfl : allOne _ = true) | (refine (?_ : (0 : Int) ≤ _); omega) | (refine (?_ : _ ≠ _); omega) | (refine (?_ : srcLen _ = rowsLen _); rfl) | exact Nat.le_of_ble_eq_true rfl | exact (by kernel_rfl : drawOk _ _ = true) | refine eqv_len_map ?_ | refine eqv_size ?_ | refine eqv_put (eqv_ck ?_) | refine eqv_zero ?_ | refine eqv_wrap (by omega) (by omega) ?_ | refine eqv_u64 (by omega) (by omega) ?_ | refine eqv_u8 (by omega) (by omega) ?_ | refine eqv_to _ (set_map rfl rfl) ?_ | refine ⟨_, _, (by first | rfl | assumption), at_map (by assumption), ?_⟩ | refine ⟨_, _, (by first | rfl | assumption), (by assumption), ?_⟩ | refine ⟨_, at_map (by assumption), (by decide), ?_⟩ | refine ⟨_, at_map (by assumption), ?_⟩ | (refine (?_ : _ ≤ 140737488355328); simp [rowsLen] <;> omega) | (refine (?_ : _ ≤ 9223372036854775807); simp [rowsLen] <;> omega) | (refine (?_ : _ = rowsLen _); simp [rowsLen] <;> omega) | refine eqv_to _ (app_row rfl) (eqv_to _ app_len ?_) | refine eqv_to _ (app_first rfl) (eqv_to 1 rfl ?_) | refine idx_sl (at_map (by assumption)) (by omega) ?_ | refine idx_ms _ (by first | rfl | assumption) (by first | assumption | omega) ?_ | (change vcFun _ _ _ _ _; refine call_eq rfl (by repeat' (first | trivial | refine And.intro ?_ ?_ | (show 0 + _ ≤ List.length _; simp))) ALeL.refl (hm) rfl ?_) | fail)
    all_goals first
      | (exfalso; omega)
      | (refine ⟨i + 1, hlt, by omega, ?_⟩
         rw [hsr, hsn, map_snoc, sl_app, ob_app]
         refine back [0, 3] rfl rfl ?_ ?_
         · repeat' (first | exact trivial | exact rfl | exact ren_get rfl | refine kept_ob rfl ?_ | refine kept_bx ren_bx0 rfl ?_ | refine kept_bx ren_bx3 rfl ?_ | refine kept_bx ren_bx1 rfl ?_ | exact ⟨_, rfl, ALe.refl⟩ | refine And.intro ?_ ?_)
         · repeat' (first | exact trivial | exact rfl | exact ren_get rfl | refine kept_ob rfl ?_ | refine kept_bx ren_bx0 rfl ?_ | refine kept_bx ren_bx3 rfl ?_ | refine kept_bx ren_bx1 rfl ?_ | exact ⟨_, rfl, ALe.refl⟩ | refine And.intro ?_ ?_))
  obtain rfl : i = m.classes.length := by omega
  have ht : (lensV m).take m.classes.length = lensV m := List.take_of_length_le (by unfold lensV; rw [List.length_map]; omega)
  rw [ht]
  have hcl := case_len (a := lensV m) (n := k)
  generalize caseL (lensV m) k = L at *
  refine forceH_in ?_
  refine ghost_seq (Γ' := [(2, .ptr 0 4 0 0), (5, .pv (.sl 1 (L.map intRow))), (6, vint .i64 m.classes.length)]) (H' := [mdlO m]) (Ghost.sl (s := 5) (id := 1) rfl rfl fun H' hl hH => back [0] rfl rfl ⟨hH 0 (by decide), trivial⟩ (by repeat' (first | exact trivial | exact rfl | exact ⟨_, rfl, ALe.refl⟩ | refine And.intro ?_ ?_))) ?_
  dsimp only [mdlO]
  repeat' (first | refine o1 ?_ | refine o2 ?_ | refine k1 ?_ | refine k2 ?_ | refine k3 ?_ | refine k4 ?_ | refine k6 ?_ | refine k7 ?_ | refine k8 ?_ | refine And.intro ?_ ?_ | exact trivial | refine o3 ?_ | refine o4 ?_ | refine o5 ?_ | refine o6 ?_ | refine k5 ?_ | (intro h; first | exact Bool.noConfusion h | exact nz _ h | exact nl h | (simp at h; done) | (simp at h; first | (exfalso; omega) | skip) | skip) | (change retOk _ _ _ _; refine ret_pure rfl trivial ?_) | exact (rfl : allOne _ = true) | (refine (?_ : (0 : Int) ≤ _); omega) | (refine (?_ : _ ≠ _); omega) | (refine (?_ : srcLen _ = rowsLen _); rfl) | exact Nat.le_of_ble_eq_true rfl | exact (by kernel_rfl : drawOk _ _ = true) | refine eqv_len_map ?_ | refine eqv_size ?_ | refine eqv_put (eqv_ck ?_) | refine eqv_zero ?_ | refine eqv_wrap (by omega) (by omega) ?_ | refine eqv_u64 (by omega) (by omega) ?_ | refine eqv_u8 (by omega) (by omega) ?_ | refine eqv_to _ (set_map rfl rfl) ?_ | refine ⟨_, _, (by first | rfl | assumption), at_map (by assumption), ?_⟩ | refine ⟨_, _, (by first | rfl | assumption), (by assumption), ?_⟩ | refine ⟨_, at_map (by assumption), (by decide), ?_⟩ | refine ⟨_, at_map (by assumption), ?_⟩ | (refine (?_ : _ ≤ 140737488355328); simp [rowsLen] <;> omega) | (refine (?_ : _ ≤ 9223372036854775807); simp [rowsLen] <;> omega) | (refine (?_ : _ = rowsLen _); simp [rowsLen] <;> omega) | refine eqv_to _ (app_row rfl) (eqv_to _ app_len ?_) | refine eqv_to _ (app_first rfl) (eqv_to 1 rfl ?_) | refine idx_sl (at_map (by assumption)) (by omega) ?_ | refine idx_ms _ (by first | rfl | assumption) (by first | assumption | omega) ?_ | fail)
  all_goals first
    | (exfalso; omega)
    | rfl
end Go.Proofs.YtihpjcmloecaaaaGreat.Cw
/-
  Breaking symmetries, plain: the least cost of all complete plans stays.
-/
namespace Go.Proofs.YtihpjcmloecaaaaGreat.Cw
open Go Go.Cw Go.Proofs
set_option linter.unusedVariables false
set_option maxRecDepth 100000
set_option maxHeartbeats 1600000
noncomputable def bestC (f : Nat → Int) : Nat → Int
  | 0 => 1099511627776
  | n + 1 => if f n < bestC f n then f n else bestC f n
theorem best_le {f : Nat → Int} : ∀ {n k : Nat}, k < n → bestC f n ≤ f k
  | n + 1, k, h => by
    unfold bestC
    rcases Nat.lt_or_ge k n with h1 | h1
    · have := best_le (f := f) h1
      split <;> omega
    · obtain rfl : k = n := by omega
      split <;> omega
theorem best_top {f : Nat → Int} : ∀ {n : Nat}, bestC f n ≤ 1099511627776
  | 0 => Int.le_refl _
  | n + 1 => by
    have := best_top (f := f) (n := n)
    unfold bestC
    split <;> omega
theorem best_ge {f : Nat → Int} {x : Int} : ∀ {n : Nat}, x ≤ 1099511627776 → (∀ k, k < n → x ≤ f k) → x ≤ bestC f n
  | 0, h, _ => h
  | n + 1, h, h1 => by
    have := best_ge (f := f) (n := n) h fun k hk => h1 k (by omega)
    have := h1 n (by omega)
    unfold bestC
    split <;> omega
section
variable {m : Model}
theorem lens_len : (lensV m).length = m.classes.length := by unfold lensV; rw [List.length_map]
theorem lens_at {j : Nat} {l : List Opt} (h : m.classes[j]? = some l) : (lensV m)[j]? = some l.length := by unfold lensV; rw [List.getElem?_map, h]; rfl
theorem case_plan (h1 : ∀ l ∈ m.classes, 1 ≤ l.length) (k : Nat) : isPlanP m (caseL (lensV m) k) := by
  refine ⟨by rw [case_len, lens_len], fun j hj o l ho hl => ?_⟩
  have := case_at ho (lens_at hl) (h1 l (List.mem_of_getElem? hl))
  omega
theorem case_full (h1 : ∀ l ∈ m.classes, 1 ≤ l.length) (k : Nat) : fullP (caseL (lensV m) k) := by
  intro o ho
  obtain ⟨j, hj⟩ := List.getElem?_of_mem ho
  have hjl := (List.getElem?_eq_some_iff.1 hj).1
  rw [case_len, lens_len] at hjl
  obtain ⟨l, hl⟩ := getE hjl
  exact (case_at hj (lens_at hl) (h1 l (List.mem_of_getElem? hl))).1
theorem case_all {p : List Int} (hp : isPlanP m p) (hf : fullP p) : ∃ k, k < prodL (lensV m) ∧ caseL (lensV m) k = p := by
  refine case_on (by rw [lens_len]; exact hp.1) fun j o c ho hc => ?_
  have hjl := (List.getElem?_eq_some_iff.1 ho).1
  obtain ⟨l, hl⟩ := getE (show j < m.classes.length by have := hp.1; omega)
  rw [lens_at hl] at hc
  obtain rfl := Option.some.inj hc
  exact ⟨hf o (List.mem_of_getElem? ho), (hp.2 j hjl o l ho hl).2⟩
theorem keep_best (hok : modelE m = 0) (h56 : m.rules < 56) (h1 : ∀ l ∈ m.classes, 1 ≤ l.length) :
    bestC (fun k => costV m (caseL (lensV m) k)) (prodL (lensV m)) = bestC (fun k => costV (brkM m) (caseL (lensV m) k)) (prodL (lensV m)) := by
  refine Int.le_antisymm (best_ge best_top fun k hk => ?_) (best_ge best_top fun k hk => ?_)
  · have h2 := best_le (f := fun k => costV m (caseL (lensV m) k)) hk
    rcases brk_or (p := caseL (lensV m) k) hok h56 with h | h
    · rw [h]; exact h2
    · rw [h]; exact best_top
  · obtain ⟨q, g1, g2, g3⟩ := keep_plan hok h56 (case_plan h1 k) (case_full h1 k)
    obtain ⟨k', e1, rfl⟩ := case_all g1 g2
    have h2 := best_le (f := fun k => costV (brkM m) (caseL (lensV m) k)) e1
    show _ ≤ costV m (caseL (lensV m) k)
    rw [← g3]; exact h2
end
end Go.Proofs.YtihpjcmloecaaaaGreat.Cw
