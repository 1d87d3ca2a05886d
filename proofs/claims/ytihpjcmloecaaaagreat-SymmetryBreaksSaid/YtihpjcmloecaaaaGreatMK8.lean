/-
  Part 8 of the proof (SE5, Mk3, Mk5, Mk5a, Mk5b, Mk5c, Mk5d, Mk6, SE6, SW1, SA1, SW4): what later parts use. No conditions.
-/
import Derived.Test.YtihpjcmloecaaaaGreatMK7
namespace Go.Proofs.YtihpjcmloecaaaaGreat.Cw
open Go Go.Cw Go.Proofs
set_option linter.unusedVariables false
set_option maxRecDepth 100000
set_option maxHeartbeats 8000000
structure EvL (l : List Opt) : Prop where
 le : l.length ≤ 7
 one : 1 ≤ l.length
 day : ∀ o ∈ l, o.place.time.day = 0 ∨ o.place.time.day = 1
 ch : ∀ o ∈ l, OptQ 2 o
def evB (c p n : AV) : Option AObj := some ⟨29, 4, false, .box [c, p, n, zg .i64 2]⟩
def ob6 (t r : Int) (c : AV) : Option AObj := some ⟨62, 6, false, .box [zg .i64 1, zg .i64 t, zg .i64 0, zg .i64 1, zg .i64 r, c]⟩
theorem ch_one {p : Placed} {n : Int} (h : qF n) : OptQ 2 ⟨p, [⟨0, n⟩]⟩ := ⟨(ChQ.app (r := 2) (u := 0) ChQ.nil (by decide) h).at_, by show 1 ≤ 4; decide⟩
theorem ch_nil {p : Placed} : OptQ 2 ⟨p, []⟩ := ⟨fun i hi => absurd hi (Nat.not_lt_zero _), by show 0 ≤ 4; decide⟩
structure EvM (m : Model) : Prop where
 ok : qx m = 0
 laid : Laid m
 cls : ∀ l ∈ m.classes, EvL l
 few : m.classes.length ≤ 5
 prs : m.pairs.length ≤ 200
 cts : m.counts.length ≤ 6
 tabs : ∀ p ∈ m.pairs, p.table.length ≤ 100
theorem zpb {C : List (List Opt)} {P : List Pair} {CS : List Count} (h1 : C.length ≤ 5) (h2 : ∀ l ∈ C, EvL l) (h3 : PrQ C 2 P 1 C.length 0) (h5 : CS.length ≤ 6) (h6 : ∀ c ∈ CS, CtQ C 2 c) : EvM ⟨C, P, CS, 2⟩ := by
 have hl := h3.len
 have hz : qJ ⟨C, P, CS, 2⟩ := ⟨by dsimp only; omega, fun l hl => by have := (h2 l hl).le; omega, by dsimp only; omega, by dsimp only; omega, by dsimp only; omega, by dsimp only; omega⟩
 refine ⟨mE0 hz ⟨fun l hl o ho => ((h2 l hl).ch o ho).1, h3.at_, fun c hc => (h6 c hc).1⟩, ⟨by dsimp only; omega, by dsimp only; omega, fun l hl o ho => by have := ((h2 l hl).ch o ho).2; omega, fun c hc => by have := (h6 c hc).2; omega⟩, h2, h1, by dsimp only; omega, h5, fun p hp => ?_⟩
 obtain ⟨i, hi⟩ := List.getElem?_of_mem hp
 have hlt : i < P.length := (List.getElem?_eq_some_iff.1 hi).1
 obtain ⟨⟨_, _, _, ⟨a, b, ha, hb, hl⟩, _⟩, _⟩ := h3.at_ i hlt p hi
 have g1 := (h2 a (List.mem_of_getElem? ha)).le
 have g2 := (h2 b (List.mem_of_getElem? hb)).le
 rw [hl]
 exact Nat.le_trans (Nat.mul_le_mul g1 g2) (by omega)
theorem c_evenA (t : List Int) (k : Nat) (ht : t.length ≤ 400) (hk : k ≤ t.length) (a R : Nat) (ha : a ≤ 5) (hR : R ≤ 3) (hR1 : 1 ≤ R) :
  qf Tryz.prog 25 [.ptr 0 2 0 0, zg .i64 a, zg .i64 R] [qd t k]
   (fun r H' => ∃ (m : Model) (k' : Nat), k' ≤ t.length ∧ (EvM m ∧ m.classes.length ≤ a ∧ m.rules = 2) ∧ r = ag m.cells ∧ H' = [qd t k']) := by
 refine zh tok mixed 105 rfl (fn := Tryz.f25) (c := Tryz.f25.body.getD .skip) (by kernel_rfl) (by kernel_rfl) (by kernel_rfl) rfl 1 rfl ?_
 repeat' (first | refine o1 ?_ | refine o2 ?_ | refine k1 ?_ | refine k2 ?_ | refine k3 ?_ | refine k4 ?_ | refine k6 ?_ | refine k7 ?_ | refine k8 ?_ | refine And.intro ?_ ?_ | exact trivial | refine o3 ?_ | refine o4 ?_ | refine o5 ?_ | refine o6 ?_ | refine k5 ?_ | (intro h; first | exact Bool.noConfusion h | exact nz _ h | exact nl h | (simp at h; done) | (simp at h; first | (exfalso; omega) | skip) | skip) | (change zx _ _ _ _; refine zd rfl trivial ?_) | exact (rfl : qB _ = true) | (refine (?_ : (0 : Int) ≤ _); omega) | (refine (?_ : _ ≠ _); omega) | (refine (?_ : z8 _ = zb _); rfl) | exact Nat.le_of_ble_eq_true rfl | exact (by kernel_rfl : zn _ _ = true) | refine za ?_ | refine eqv_size ?_ | refine xm (xZ ?_) | refine zL ?_ | refine zc (by omega) (by omega) ?_ | refine eqv_u64 (by omega) (by omega) ?_ | refine eqv_u8 (by omega) (by omega) ?_ | refine zi _ (xh rfl rfl) ?_ | refine ⟨_, _, (by first | rfl | assumption), zf (by assumption), ?_⟩ | refine ⟨_, _, (by first | rfl | assumption), (by assumption), ?_⟩ | refine ⟨_, zf (by assumption), (by decide), ?_⟩ | refine ⟨_, zf (by assumption), ?_⟩ | (refine (?_ : _ ≤ 140737488355328); simp [zb] <;> omega) | (refine (?_ : _ ≤ 9223372036854775807); simp [zb] <;> omega) | (refine (?_ : _ = zb _); simp [zb] <;> omega) | refine zi _ (qK rfl) (zi _ qY ?_) | refine zi _ (qb rfl) (zi 1 rfl ?_) | refine zj (zf (by assumption)) (by omega) ?_ | refine qp _ (by first | rfl | assumption) (by first | assumption | omega) ?_ | (change zp _ _ _ _ _; refine qi 0 rfl (by assumption) (by assumption) (by omega) (by omega) ?_; intro v kq hv1 hv2 hkq) | (change zp _ _ _ _ _; refine zaZ 0 rfl (by assumption) (by assumption) (by omega) (by omega) ?_; intro bq kq hkq) | (change zI _ _ _ _ _; refine qN 0 rfl (by assumption) (by assumption) (by omega) (by omega) ?_; intro v kq hv1 hv2 hkq) | (change zI _ _ _ _ _; refine zcn 0 rfl (by assumption) (by assumption) (by omega) (by omega) ?_; intro bq kq hkq) | fail)
 dsimp only [qr]
 refine zB (fun z : Nat × Nat × List (List Opt) => [(0, .ptr 0 2 0 0), (2, zg .i64 R), (6, .ptr 1 4 0 0), (7, .ptr 2 4 0 0), (8, zg .i64 z.1)])
  (fun z => [qd t z.2.1, ql, evB (slP 3 1 (z.2.2.map zA)) qr qr, obP 51 1 (z.2.2.map zA)])
  (fun z => z.1 + z.2.2.length ≤ a ∧ z.2.1 ≤ t.length ∧ ∀ l ∈ z.2.2, EvL l) (fun z => z.1) (v.toNat, kq, []) ⟨by simp; omega, hkq, fun n h => absurd h List.not_mem_nil⟩ ?_ ?_
 · exact zJ [0, 1, 2, 3] rfl rfl (by repeat' (first | exact trivial | exact rfl | exact zG rfl | refine zu rfl ?_ | refine zl z7 rfl ?_ | refine zl qe rfl ?_ | refine zl zV rfl ?_ | exact ⟨_, rfl, ALe.refl⟩ | refine And.intro ?_ ?_)) ⟨rfl, rfl, rfl, rfl, zk1 rfl (congrArg (zg .i64) (by show _ = ((v.toNat : Nat) : Int); omega)), trivial⟩
 rintro ⟨n, k, C⟩ ⟨hn, hk, hC⟩
 dsimp only at hn hk hC ⊢
 dsimp only [evB, ql]
 rcases Nat.eq_zero_or_pos n with rfl | hn1
 · refine zq ?_
   refine qh (Γ' := [(0, .ptr 0 2 0 0), (2, zg .i64 R), (6, .ptr 1 4 0 0), (7, .ptr 2 4 0 0), (8, zg .i64 (0 : Nat))]) (H' := [qd t k, ql, evB (.pv (.sl 1 (C.map zA))) qr qr]) (zD.shut_sl (i := 2) (c := 0) (id := 3) rfl rfl rfl (by decide) fun H' hl h2 hH => zJ [0, 1, 2] rfl rfl ⟨hH 0 (by decide) (by decide), hH 1 (by decide) (by decide), h2, trivial⟩ (by repeat' (first | exact trivial | exact rfl | exact zG rfl | refine zu rfl ?_ | refine zl z7 rfl ?_ | refine zl qe rfl ?_ | refine zl zV rfl ?_ | exact ⟨_, rfl, ALe.refl⟩ | refine And.intro ?_ ?_))) ?_
   dsimp only [evB, ql]
   repeat' (first | refine o1 ?_ | refine o2 ?_ | refine k1 ?_ | refine k2 ?_ | refine k3 ?_ | refine k4 ?_ | refine k6 ?_ | refine k7 ?_ | refine k8 ?_ | refine And.intro ?_ ?_ | exact trivial | refine o3 ?_ | refine o4 ?_ | refine o5 ?_ | refine o6 ?_ | refine k5 ?_ | (intro h; first | exact Bool.noConfusion h | exact nz _ h | exact nl h | (simp at h; done) | (simp at h; first | (exfalso; omega) | skip) | skip) | (change zx _ _ _ _; refine zd rfl trivial ?_) | exact (rfl : qB _ = true) | (refine (?_ : (0 : Int) ≤ _); omega) | (refine (?_ : _ ≠ _); omega) | (refine (?_ : z8 _ = zb _); rfl) | exact Nat.le_of_ble_eq_true rfl | exact (by kernel_rfl : zn _ _ = true) | refine za ?_ | refine eqv_size ?_ | refine xm (xZ ?_) | refine zL ?_ | refine zc (by omega) (by omega) ?_ | refine eqv_u64 (by omega) (by omega) ?_ | refine eqv_u8 (by omega) (by omega) ?_ | refine zi _ (xh rfl rfl) ?_ | refine ⟨_, _, (by first | rfl | assumption), zf (by assumption), ?_⟩ | refine ⟨_, _, (by first | rfl | assumption), (by assumption), ?_⟩ | refine ⟨_, zf (by assumption), (by decide), ?_⟩ | refine ⟨_, zf (by assumption), ?_⟩ | (refine (?_ : _ ≤ 140737488355328); simp [zb] <;> omega) | (refine (?_ : _ ≤ 9223372036854775807); simp [zb] <;> omega) | (refine (?_ : _ = zb _); simp [zb] <;> omega) | refine zi _ (qK rfl) (zi _ qY ?_) | refine zi _ (qb rfl) (zi 1 rfl ?_) | refine zj (zf (by assumption)) (by omega) ?_ | refine qp _ (by first | rfl | assumption) (by first | assumption | omega) ?_ | fail)
   refine zB (fun z : Nat × Nat × List Pair => [(0, .ptr 0 2 0 0), (2, zg .i64 R), (6, .ptr 1 4 0 0), (7, .ptr 2 4 0 0), (14, zg .i64 z.1)])
    (fun z => [qd t z.2.1, ql, evB (.pv (.sl 1 (C.map zA))) (slP 3 4 (z.2.2.map Pair.row)) qr, obP 72 4 (z.2.2.map Pair.row)])
    (fun z => z.1 ≤ C.length ∧ z.2.1 ≤ t.length ∧ PrQ C 2 z.2.2 1 z.1 0) (fun z => C.length - z.1) (0, k, []) ⟨Nat.zero_le _, hk, ⟨fun i h => absurd h (Nat.not_lt_zero _), fun c h => absurd h List.not_mem_nil, by show 0 ≤ _; exact Nat.zero_le _⟩⟩ ?_ ?_
   · exact zJ [0, 1, 2, 3] rfl rfl (by repeat' (first | exact trivial | exact rfl | exact zG rfl | refine zu rfl ?_ | refine zl z7 rfl ?_ | refine zl qe rfl ?_ | refine zl zV rfl ?_ | exact ⟨_, rfl, ALe.refl⟩ | refine And.intro ?_ ?_)) (by repeat' (first | exact trivial | exact rfl | exact zG rfl | refine zu rfl ?_ | refine zl z7 rfl ?_ | refine zl qe rfl ?_ | refine zl zV rfl ?_ | exact ⟨_, rfl, ALe.refl⟩ | refine And.intro ?_ ?_))
   rintro ⟨i, k, P⟩ ⟨hi, hk, hP⟩
   dsimp only at hi hk hP ⊢
   dsimp only [evB, ql]
   rcases Nat.lt_or_ge i C.length with hil | hig
   · repeat' (first | (refine xl ?_) | (refine z6 ?_) | refine o1 ?_ | refine o2 ?_ | refine k1 ?_ | refine k2 ?_ | refine k3 ?_ | refine k4 ?_ | refine k6 ?_ | refine k7 ?_ | refine k8 ?_ | refine And.intro ?_ ?_ | exact trivial | refine o3 ?_ | refine o4 ?_ | refine o5 ?_ | refine o6 ?_ | refine k5 ?_ | (intro h; first | exact Bool.noConfusion h | exact nz _ h | exact nl h | (simp at h; done) | (simp at h; first | (exfalso; omega) | skip) | skip) | (change zx _ _ _ _; refine zd rfl trivial ?_) | exact (rfl : qB _ = true) | (refine (?_ : (0 : Int) ≤ _); omega) | (refine (?_ : _ ≠ _); omega) | (refine (?_ : z8 _ = zb _); rfl) | exact Nat.le_of_ble_eq_true rfl | exact (by kernel_rfl : zn _ _ = true) | refine za ?_ | refine eqv_size ?_ | refine xm (xZ ?_) | refine zL ?_ | refine zc (by omega) (by omega) ?_ | refine eqv_u64 (by omega) (by omega) ?_ | refine eqv_u8 (by omega) (by omega) ?_ | refine zi _ (xh rfl rfl) ?_ | refine ⟨_, _, (by first | rfl | assumption), zf (by assumption), ?_⟩ | refine ⟨_, _, (by first | rfl | assumption), (by assumption), ?_⟩ | refine ⟨_, zf (by assumption), (by decide), ?_⟩ | refine ⟨_, zf (by assumption), ?_⟩ | (refine (?_ : _ ≤ 140737488355328); simp [zb] <;> omega) | (refine (?_ : _ ≤ 9223372036854775807); simp [zb] <;> omega) | (refine (?_ : _ = zb _); simp [zb] <;> omega) | refine zi _ (qK rfl) (zi _ qY ?_) | refine zi _ (qb rfl) (zi 1 rfl ?_) | refine zj (zf (by assumption)) (by omega) ?_ | refine qp _ (by first | rfl | assumption) (by first | assumption | omega) ?_ | fail)
     refine zB (fun z : Nat × Nat × List Pair => [(0, .ptr 0 2 0 0), (2, zg .i64 R), (6, .ptr 1 4 0 0), (7, .ptr 2 4 0 0), (14, zg .i64 i), (15, zg .i64 z.1)])
      (fun z => [qd t z.2.1, ql, evB (.pv (.sl 1 (C.map zA))) (slP 3 4 (z.2.2.map Pair.row)) qr, obP 72 4 (z.2.2.map Pair.row)])
      (fun z => i < z.1 ∧ z.1 ≤ C.length ∧ z.2.1 ≤ t.length ∧ PrQ C 2 z.2.2 1 i z.1) (fun z => C.length - z.1) (i + 1, k, P) ⟨Nat.lt_succ_self _, hil, hk, hP.toK⟩ ?_ ?_
     · refine zJ [0, 1, 2, 3] rfl rfl ?_ ?_
       · repeat' (first | exact trivial | exact rfl | exact zG rfl | refine zu rfl ?_ | refine zl z7 rfl ?_ | refine zl qe rfl ?_ | refine zl zV rfl ?_ | exact ⟨_, rfl, ALe.refl⟩ | refine And.intro ?_ ?_)
       · repeat' (first | exact trivial | exact rfl | exact zG rfl | refine zu rfl ?_ | refine zl z7 rfl ?_ | refine zl qe rfl ?_ | refine zl zV rfl ?_ | exact ⟨_, rfl, ALe.refl⟩ | refine And.intro ?_ ?_)
     rintro ⟨j, k, P⟩ ⟨hij, hj, hk, hj3⟩
     dsimp only at hij hj hk hj3 ⊢
     dsimp only [evB, ql]
     rcases Nat.lt_or_ge j C.length with hjl2 | hjg
     · rcases P with _ | ⟨p0, P⟩
       · skip
         have hjl := hj3.len
         skip
         obtain ⟨x, hx⟩ := qj hil
         obtain ⟨y, hy⟩ := qj hjl2
         have hX := hC x (List.mem_of_getElem? hx)
         have hY := hC y (List.mem_of_getElem? hy)
         have hb1 : ((List.map Pair.row (([] : List Pair))).length + 1) * 48 ≤ 140737488355328 := by rw [List.length_map]; omega
         have hb2 : (List.map Pair.row (([] : List Pair))).length + 1 ≤ 9223372036854775807 := by rw [List.length_map]; omega
         obtain ⟨TT, k', p1, p2, p3, hev⟩ := zlI t k ht hk C i j x y hx hy hX.le hY.le hX.day hY.day
         repeat' (first | (refine xl ?_) | (refine z6 ?_) | ((change zI _ _ _ _ _; refine zhc [0] [qd t k] [.ptr 0 2 0 0, .agg [.pv (.sl 1 (C.map zA)), qr, qr, zg .i64 2], zg .i64 i, zg .i64 j] rfl ⟨rfl, trivial⟩ rfl hev rfl ?_)) | ((refine zcc (rows := List.map Pair.row (([] : List Pair))) rfl rfl rfl rfl rfl rfl rfl rfl rfl rfl rfl hb1 hb2 ?_)) | refine o1 ?_ | refine o2 ?_ | refine k1 ?_ | refine k2 ?_ | refine k3 ?_ | refine k4 ?_ | refine k6 ?_ | refine k7 ?_ | refine k8 ?_ | refine And.intro ?_ ?_ | exact trivial | refine o3 ?_ | refine o4 ?_ | refine o5 ?_ | refine o6 ?_ | refine k5 ?_ | (intro h; first | exact Bool.noConfusion h | exact nz _ h | exact nl h | (simp at h; done) | (simp at h; first | (exfalso; omega) | skip) | skip) | (change zx _ _ _ _; refine zd rfl trivial ?_) | exact (rfl : qB _ = true) | (refine (?_ : (0 : Int) ≤ _); omega) | (refine (?_ : _ ≠ _); omega) | (refine (?_ : z8 _ = zb _); rfl) | exact Nat.le_of_ble_eq_true rfl | exact (by kernel_rfl : zn _ _ = true) | refine za ?_ | refine eqv_size ?_ | refine xm (xZ ?_) | refine zL ?_ | refine zc (by omega) (by omega) ?_ | refine eqv_u64 (by omega) (by omega) ?_ | refine eqv_u8 (by omega) (by omega) ?_ | refine zi _ (xh rfl rfl) ?_ | refine ⟨_, _, (by first | rfl | assumption), zf (by assumption), ?_⟩ | refine ⟨_, _, (by first | rfl | assumption), (by assumption), ?_⟩ | refine ⟨_, zf (by assumption), (by decide), ?_⟩ | refine ⟨_, zf (by assumption), ?_⟩ | (refine (?_ : _ ≤ 140737488355328); simp [zb] <;> omega) | (refine (?_ : _ ≤ 9223372036854775807); simp [zb] <;> omega) | (refine (?_ : _ = zb _); simp [zb] <;> omega) | refine zi _ (qK rfl) (zi _ qY ?_) | refine zi _ (qb rfl) (zi 1 rfl ?_) | refine zj (zf (by assumption)) (by omega) ?_ | refine qp _ (by first | rfl | assumption) (by first | assumption | omega) ?_ | fail)
         all_goals
          refine ⟨(j + 1, k', ([] : List Pair) ++ [⟨i, j, 1, TT⟩]), ⟨by dsimp only; omega, by dsimp only; omega, p1, hj3.app (zgC hx hy hij (by decide) p2 p3)⟩, by dsimp only; omega, ?_⟩
          dsimp only
          rw [zM, qn, qo]
          refine zJ [0, 1, 2, 5] rfl rfl ?_ ?_
          · repeat' (first | exact trivial | exact rfl | exact zG rfl | refine zu rfl ?_ | refine zl z7 rfl ?_ | refine zl qe rfl ?_ | refine zl zV rfl ?_ | exact ⟨_, rfl, ALe.refl⟩ | refine And.intro ?_ ?_)
          · repeat' (first | exact trivial | exact rfl | exact zG rfl | refine zu rfl ?_ | refine zl z7 rfl ?_ | refine zl qe rfl ?_ | refine zl zV rfl ?_ | exact ⟨_, rfl, ALe.refl⟩ | refine And.intro ?_ ?_)
       · skip
         have hjl := hj3.len
         skip
         obtain ⟨x, hx⟩ := qj hil
         obtain ⟨y, hy⟩ := qj hjl2
         have hX := hC x (List.mem_of_getElem? hx)
         have hY := hC y (List.mem_of_getElem? hy)
         have hb1 : ((List.map Pair.row (p0 :: P)).length + 1) * 48 ≤ 140737488355328 := by rw [List.length_map]; omega
         have hb2 : (List.map Pair.row (p0 :: P)).length + 1 ≤ 9223372036854775807 := by rw [List.length_map]; omega
         obtain ⟨TT, k', p1, p2, p3, hev⟩ := zlJ t k ht hk C ((List.map Pair.row P).length + 1) (List.map Pair.row (p0 :: P)) i j x y hx hy hX.le hY.le hX.day hY.day
         repeat' (first | (refine xl ?_) | (refine z6 ?_) | ((change zI _ _ _ _ _; refine zhc [0, 3] [qd t k, some ⟨72, 4, false, .p (List.map Pair.row (p0 :: P))⟩] [.ptr 0 2 0 0, .agg [.pv (.sl 1 (C.map zA)), .ms 1 4 0 ((List.map Pair.row P).length + 1), qr, zg .i64 2], zg .i64 i, zg .i64 j] rfl ⟨rfl, rfl, trivial⟩ rfl hev rfl ?_)) | ((refine zcc (rows := List.map Pair.row (p0 :: P)) rfl rfl rfl rfl rfl rfl rfl rfl rfl rfl rfl hb1 hb2 ?_)) | refine o1 ?_ | refine o2 ?_ | refine k1 ?_ | refine k2 ?_ | refine k3 ?_ | refine k4 ?_ | refine k6 ?_ | refine k7 ?_ | refine k8 ?_ | refine And.intro ?_ ?_ | exact trivial | refine o3 ?_ | refine o4 ?_ | refine o5 ?_ | refine o6 ?_ | refine k5 ?_ | (intro h; first | exact Bool.noConfusion h | exact nz _ h | exact nl h | (simp at h; done) | (simp at h; first | (exfalso; omega) | skip) | skip) | (change zx _ _ _ _; refine zd rfl trivial ?_) | exact (rfl : qB _ = true) | (refine (?_ : (0 : Int) ≤ _); omega) | (refine (?_ : _ ≠ _); omega) | (refine (?_ : z8 _ = zb _); rfl) | exact Nat.le_of_ble_eq_true rfl | exact (by kernel_rfl : zn _ _ = true) | refine za ?_ | refine eqv_size ?_ | refine xm (xZ ?_) | refine zL ?_ | refine zc (by omega) (by omega) ?_ | refine eqv_u64 (by omega) (by omega) ?_ | refine eqv_u8 (by omega) (by omega) ?_ | refine zi _ (xh rfl rfl) ?_ | refine ⟨_, _, (by first | rfl | assumption), zf (by assumption), ?_⟩ | refine ⟨_, _, (by first | rfl | assumption), (by assumption), ?_⟩ | refine ⟨_, zf (by assumption), (by decide), ?_⟩ | refine ⟨_, zf (by assumption), ?_⟩ | (refine (?_ : _ ≤ 140737488355328); simp [zb] <;> omega) | (refine (?_ : _ ≤ 9223372036854775807); simp [zb] <;> omega) | (refine (?_ : _ = zb _); simp [zb] <;> omega) | refine zi _ (qK rfl) (zi _ qY ?_) | refine zi _ (qb rfl) (zi 1 rfl ?_) | refine zj (zf (by assumption)) (by omega) ?_ | refine qp _ (by first | rfl | assumption) (by first | assumption | omega) ?_ | fail)
         all_goals
          refine ⟨(j + 1, k', (p0 :: P) ++ [⟨i, j, 1, TT⟩]), ⟨by dsimp only; omega, by dsimp only; omega, p1, hj3.app (zgC hx hy hij (by decide) p2 p3)⟩, by dsimp only; omega, ?_⟩
          dsimp only
          rw [zM, qn, qo]
          refine zJ [0, 1, 2, 5] rfl rfl ?_ ?_
          · repeat' (first | exact trivial | exact rfl | exact zG rfl | refine zu rfl ?_ | refine zl z7 rfl ?_ | refine zl qe rfl ?_ | refine zl zV rfl ?_ | exact ⟨_, rfl, ALe.refl⟩ | refine And.intro ?_ ?_)
          · repeat' (first | exact trivial | exact rfl | exact zG rfl | refine zu rfl ?_ | refine zl z7 rfl ?_ | refine zl qe rfl ?_ | refine zl zV rfl ?_ | exact ⟨_, rfl, ALe.refl⟩ | refine And.intro ?_ ?_)
     · obtain rfl : j = C.length := by omega
       repeat' (first | (refine xl ?_) | (refine z6 ?_) | refine o1 ?_ | refine o2 ?_ | refine k1 ?_ | refine k2 ?_ | refine k3 ?_ | refine k4 ?_ | refine k6 ?_ | refine k7 ?_ | refine k8 ?_ | refine And.intro ?_ ?_ | exact trivial | refine o3 ?_ | refine o4 ?_ | refine o5 ?_ | refine o6 ?_ | refine k5 ?_ | (intro h; first | exact Bool.noConfusion h | exact nz _ h | exact nl h | (simp at h; done) | (simp at h; first | (exfalso; omega) | skip) | skip) | (change zx _ _ _ _; refine zd rfl trivial ?_) | exact (rfl : qB _ = true) | (refine (?_ : (0 : Int) ≤ _); omega) | (refine (?_ : _ ≠ _); omega) | (refine (?_ : z8 _ = zb _); rfl) | exact Nat.le_of_ble_eq_true rfl | exact (by kernel_rfl : zn _ _ = true) | refine za ?_ | refine eqv_size ?_ | refine xm (xZ ?_) | refine zL ?_ | refine zc (by omega) (by omega) ?_ | refine eqv_u64 (by omega) (by omega) ?_ | refine eqv_u8 (by omega) (by omega) ?_ | refine zi _ (xh rfl rfl) ?_ | refine ⟨_, _, (by first | rfl | assumption), zf (by assumption), ?_⟩ | refine ⟨_, _, (by first | rfl | assumption), (by assumption), ?_⟩ | refine ⟨_, zf (by assumption), (by decide), ?_⟩ | refine ⟨_, zf (by assumption), ?_⟩ | (refine (?_ : _ ≤ 140737488355328); simp [zb] <;> omega) | (refine (?_ : _ ≤ 9223372036854775807); simp [zb] <;> omega) | (refine (?_ : _ = zb _); simp [zb] <;> omega) | refine zi _ (qK rfl) (zi _ qY ?_) | refine zi _ (qb rfl) (zi 1 rfl ?_) | refine zj (zf (by assumption)) (by omega) ?_ | refine qp _ (by first | rfl | assumption) (by first | assumption | omega) ?_ | fail)
       refine ⟨(i + 1, k, P), ⟨by dsimp only; omega, hk, hj3.toI (by omega)⟩, by dsimp only; omega, ?_⟩
       dsimp only
       refine zJ [0, 1, 2, 3] rfl rfl ?_ ?_
       · repeat' (first | exact trivial | exact rfl | exact zG rfl | refine zu rfl ?_ | refine zl z7 rfl ?_ | refine zl qe rfl ?_ | refine zl zV rfl ?_ | exact ⟨_, rfl, ALe.refl⟩ | refine And.intro ?_ ?_)
       · repeat' (first | exact trivial | exact rfl | exact zG rfl | refine zu rfl ?_ | refine zl z7 rfl ?_ | refine zl qe rfl ?_ | refine zl zV rfl ?_ | exact ⟨_, rfl, ALe.refl⟩ | refine And.intro ?_ ?_)
   · obtain rfl : i = C.length := by omega
     refine zq ?_
     refine qh (Γ' := [(0, .ptr 0 2 0 0), (2, zg .i64 R), (6, .ptr 1 4 0 0), (7, .ptr 2 4 0 0), (14, zg .i64 C.length)]) (H' := [qd t k, ql, evB (.pv (.sl 1 (C.map zA))) (.pv (.sl 4 (P.map Pair.row))) qr]) (zD.shut_sl (i := 2) (c := 1) (id := 3) rfl rfl rfl (by decide) fun H' hl h2 hH => zJ [0, 1, 2] rfl rfl ⟨hH 0 (by decide) (by decide), hH 1 (by decide) (by decide), h2, trivial⟩ (by repeat' (first | exact trivial | exact rfl | exact zG rfl | refine zu rfl ?_ | refine zl z7 rfl ?_ | refine zl qe rfl ?_ | refine zl zV rfl ?_ | exact ⟨_, rfl, ALe.refl⟩ | refine And.intro ?_ ?_))) ?_
     refine qh (Γ' := [(0, .ptr 0 2 0 0), (2, zg .i64 R), (6, .ptr 1 4 0 0), (7, .ptr 2 4 0 0), (14, zg .i64 C.length)]) (H' := [qd t k, ql, evB (.pv (.sl 1 (C.map zA))) (.pv (.sl 4 (P.map Pair.row))) (.pv (.sl 4 []))]) (zD.trans (zD.shut (i := 2) (c := 2) (x := .pv (.val (.slice none 0 0))) rfl rfl rfl (by repeat' (first | trivial | refine And.intro ?_ ?_ | (show 0 + _ ≤ List.length _; simp))) (show ¬ (2 ∈ ([] : List Nat)) by decide) (ALe.pv (PLe.nil (z := 4)))) (zJ [0, 1, 2] rfl rfl (by repeat' (first | exact trivial | exact rfl | exact ⟨_, rfl, ALe.refl⟩ | refine And.intro ?_ ?_)) (by repeat' (first | exact trivial | exact rfl | exact ⟨_, rfl, ALe.refl⟩ | refine And.intro ?_ ?_)))) ?_
     dsimp only [evB, ql]
     repeat' (first | ((change zp _ _ _ _ _; refine qX (i := 0) rfl (fun _ _ => rfl) [.ptr 0 2 0 0, .agg [.pv (.sl 1 (C.map zA)), .pv (.sl 4 (P.map Pair.row)), .pv (.sl 4 []), zg .i64 2], zg .i64 R] rfl (zky t kq ht hkq C (P.map Pair.row) R hR (by omega) fun l hl => (hC l hl).le) ?_; rintro r H' ⟨CS, kz, c1, c2, c3, rfl, rfl⟩; refine ⟨_, rfl, fun _ _ => rfl, fun _ _ => rfl, ?_⟩)) | refine o1 ?_ | refine o2 ?_ | refine k1 ?_ | refine k2 ?_ | refine k3 ?_ | refine k4 ?_ | refine k6 ?_ | refine k7 ?_ | refine k8 ?_ | refine And.intro ?_ ?_ | exact trivial | refine o3 ?_ | refine o4 ?_ | refine o5 ?_ | refine o6 ?_ | refine k5 ?_ | (intro h; first | exact Bool.noConfusion h | exact nz _ h | exact nl h | (simp at h; done) | (simp at h; first | (exfalso; omega) | skip) | skip) | (change zx _ _ _ _; refine zd rfl trivial ?_) | exact (rfl : qB _ = true) | (refine (?_ : (0 : Int) ≤ _); omega) | (refine (?_ : _ ≠ _); omega) | (refine (?_ : z8 _ = zb _); rfl) | exact Nat.le_of_ble_eq_true rfl | exact (by kernel_rfl : zn _ _ = true) | refine za ?_ | refine eqv_size ?_ | refine xm (xZ ?_) | refine zL ?_ | refine zc (by omega) (by omega) ?_ | refine eqv_u64 (by omega) (by omega) ?_ | refine eqv_u8 (by omega) (by omega) ?_ | refine zi _ (xh rfl rfl) ?_ | refine ⟨_, _, (by first | rfl | assumption), zf (by assumption), ?_⟩ | refine ⟨_, _, (by first | rfl | assumption), (by assumption), ?_⟩ | refine ⟨_, zf (by assumption), (by decide), ?_⟩ | refine ⟨_, zf (by assumption), ?_⟩ | (refine (?_ : _ ≤ 140737488355328); simp [zb] <;> omega) | (refine (?_ : _ ≤ 9223372036854775807); simp [zb] <;> omega) | (refine (?_ : _ = zb _); simp [zb] <;> omega) | refine zi _ (qK rfl) (zi _ qY ?_) | refine zi _ (qb rfl) (zi 1 rfl ?_) | refine zj (zf (by assumption)) (by omega) ?_ | refine qp _ (by first | rfl | assumption) (by first | assumption | omega) ?_ | (change zp _ _ _ _ _; refine qi 0 rfl (by assumption) (by assumption) (by omega) (by omega) ?_; intro v kq hv1 hv2 hkq) | (change zp _ _ _ _ _; refine zaZ 0 rfl (by assumption) (by assumption) (by omega) (by omega) ?_; intro bq kq hkq) | (change zI _ _ _ _ _; refine qN 0 rfl (by assumption) (by assumption) (by omega) (by omega) ?_; intro v kq hv1 hv2 hkq) | (change zI _ _ _ _ _; refine zcn 0 rfl (by assumption) (by assumption) (by omega) (by omega) ?_; intro bq kq hkq) | fail)
     all_goals try repeat' (first | refine o1 ?_ | refine o2 ?_ | refine k1 ?_ | refine k2 ?_ | refine k3 ?_ | refine k4 ?_ | refine k6 ?_ | refine k7 ?_ | refine k8 ?_ | refine And.intro ?_ ?_ | exact trivial | refine o3 ?_ | refine o4 ?_ | refine o5 ?_ | refine o6 ?_ | refine k5 ?_ | (intro h; first | exact Bool.noConfusion h | exact nz _ h | exact nl h | (simp at h; done) | (simp at h; first | (exfalso; omega) | skip) | skip) | (change zx _ _ _ _; refine zd rfl trivial ?_) | exact (rfl : qB _ = true) | (refine (?_ : (0 : Int) ≤ _); omega) | (refine (?_ : _ ≠ _); omega) | (refine (?_ : z8 _ = zb _); rfl) | exact Nat.le_of_ble_eq_true rfl | exact (by kernel_rfl : zn _ _ = true) | refine za ?_ | refine eqv_size ?_ | refine xm (xZ ?_) | refine zL ?_ | refine zc (by omega) (by omega) ?_ | refine eqv_u64 (by omega) (by omega) ?_ | refine eqv_u8 (by omega) (by omega) ?_ | refine zi _ (xh rfl rfl) ?_ | refine ⟨_, _, (by first | rfl | assumption), zf (by assumption), ?_⟩ | refine ⟨_, _, (by first | rfl | assumption), (by assumption), ?_⟩ | refine ⟨_, zf (by assumption), (by decide), ?_⟩ | refine ⟨_, zf (by assumption), ?_⟩ | (refine (?_ : _ ≤ 140737488355328); simp [zb] <;> omega) | (refine (?_ : _ ≤ 9223372036854775807); simp [zb] <;> omega) | (refine (?_ : _ = zb _); simp [zb] <;> omega) | refine zi _ (qK rfl) (zi _ qY ?_) | refine zi _ (qb rfl) (zi 1 rfl ?_) | refine zj (zf (by assumption)) (by omega) ?_ | refine qp _ (by first | rfl | assumption) (by first | assumption | omega) ?_ | fail)
     · exact qC [0] [qd t kz] rfl rfl ⟨rfl, trivial⟩ (r' := ag (Model.cells ⟨C, P, CS, 2⟩)) rfl ⟨⟨C, P, CS, 2⟩, kz, c1, ⟨zpb (by omega) hC hP c2 c3, by dsimp only; omega, rfl⟩, rfl, rfl⟩
     · exact qC [0] [qd t kq] rfl rfl ⟨rfl, trivial⟩ (r' := ag (Model.cells ⟨C, P, [], 2⟩)) rfl ⟨⟨C, P, [], 2⟩, kq, hkq, ⟨zpb (by omega) hC hP (by decide) (fun c h => absurd h List.not_mem_nil), by dsimp only; omega, rfl⟩, rfl, rfl⟩
 repeat' (first | (refine xl ?_) | (refine z6 ?_) | refine o1 ?_ | refine o2 ?_ | refine k1 ?_ | refine k2 ?_ | refine k3 ?_ | refine k4 ?_ | refine k6 ?_ | refine k7 ?_ | refine k8 ?_ | refine And.intro ?_ ?_ | exact trivial | refine o3 ?_ | refine o4 ?_ | refine o5 ?_ | refine o6 ?_ | refine k5 ?_ | (intro h; first | exact Bool.noConfusion h | exact nz _ h | exact nl h | (simp at h; done) | (simp at h; first | (exfalso; omega) | skip) | skip) | (change zx _ _ _ _; refine zd rfl trivial ?_) | exact (rfl : qB _ = true) | (refine (?_ : (0 : Int) ≤ _); omega) | (refine (?_ : _ ≠ _); omega) | (refine (?_ : z8 _ = zb _); rfl) | exact Nat.le_of_ble_eq_true rfl | exact (by kernel_rfl : zn _ _ = true) | refine za ?_ | refine eqv_size ?_ | refine xm (xZ ?_) | refine zL ?_ | refine zc (by omega) (by omega) ?_ | refine eqv_u64 (by omega) (by omega) ?_ | refine eqv_u8 (by omega) (by omega) ?_ | refine zi _ (xh rfl rfl) ?_ | refine ⟨_, _, (by first | rfl | assumption), zf (by assumption), ?_⟩ | refine ⟨_, _, (by first | rfl | assumption), (by assumption), ?_⟩ | refine ⟨_, zf (by assumption), (by decide), ?_⟩ | refine ⟨_, zf (by assumption), ?_⟩ | (refine (?_ : _ ≤ 140737488355328); simp [zb] <;> omega) | (refine (?_ : _ ≤ 9223372036854775807); simp [zb] <;> omega) | (refine (?_ : _ = zb _); simp [zb] <;> omega) | refine zi _ (qK rfl) (zi _ qY ?_) | refine zi _ (qb rfl) (zi 1 rfl ?_) | refine zj (zf (by assumption)) (by omega) ?_ | refine qp _ (by first | rfl | assumption) (by first | assumption | omega) ?_ | (change zp _ _ _ _ _; refine qi 0 rfl (by assumption) (by assumption) (by omega) (by omega) ?_; intro v kq hv1 hv2 hkq) | (change zp _ _ _ _ _; refine zaZ 0 rfl (by assumption) (by assumption) (by omega) (by omega) ?_; intro bq kq hkq) | (change zI _ _ _ _ _; refine qN 0 rfl (by assumption) (by assumption) (by omega) (by omega) ?_; intro v kq hv1 hv2 hkq) | (change zI _ _ _ _ _; refine zcn 0 rfl (by assumption) (by assumption) (by omega) (by omega) ?_; intro bq kq hkq) | fail)
 refine zB (fun z : Nat × Nat × List Opt => [(0, .ptr 0 2 0 0), (2, zg .i64 R), (6, .ptr 1 4 0 0), (7, .ptr 2 4 0 0), (8, zg .i64 n), (9, slP 4 6 (z.2.2.map Opt.row)), (10, zg .i64 z.1)])
  (fun z => [qd t z.2.1, ql, evB (slP 3 1 (C.map zA)) qr qr, obP 51 1 (C.map zA), obP 62 6 (z.2.2.map Opt.row)])
  (fun z => z.1 ≤ 2 ∧ z.2.1 ≤ t.length ∧ z.2.2.length ≤ z.1 * 3 ∧ (1 ≤ z.1 → 1 ≤ z.2.2.length) ∧ (∀ o ∈ z.2.2, o.place.time.day = 0 ∨ o.place.time.day = 1) ∧ ∀ o ∈ z.2.2, OptQ 2 o) (fun z => 2 - z.1) (0, k, []) ⟨Nat.zero_le _, hk, Nat.le_refl _, fun h => by dsimp only at h; omega, fun o h => absurd h List.not_mem_nil, fun o h => absurd h List.not_mem_nil⟩ ?_ ?_
 · exact zJ [0, 1, 2, 3, 4] rfl rfl (by repeat' (first | exact trivial | exact rfl | exact zG rfl | refine zu rfl ?_ | refine zl z7 rfl ?_ | refine zl qe rfl ?_ | refine zl zV rfl ?_ | exact ⟨_, rfl, ALe.refl⟩ | refine And.intro ?_ ?_)) (by repeat' (first | exact trivial | exact rfl | exact zG rfl | refine zu rfl ?_ | refine zl z7 rfl ?_ | refine zl qe rfl ?_ | refine zl zV rfl ?_ | exact ⟨_, rfl, ALe.refl⟩ | refine And.intro ?_ ?_))
 rintro ⟨tt, k, l⟩ ⟨htt, hk, hll, hl1, hld, hlc⟩
 dsimp only at htt hk hll hl1 hld hlc ⊢
 dsimp only [evB, ql]
 rcases Nat.lt_or_ge tt 2 with htl | htg
 · repeat' (first | ((change zp _ _ _ _ _; refine zie 0 rfl (by assumption) (by assumption) ?_; intro cn kc hcn hkc)) | (refine xl ?_) | (refine z6 ?_) | refine o1 ?_ | refine o2 ?_ | refine k1 ?_ | refine k2 ?_ | refine k3 ?_ | refine k4 ?_ | refine k6 ?_ | refine k7 ?_ | refine k8 ?_ | refine And.intro ?_ ?_ | exact trivial | refine o3 ?_ | refine o4 ?_ | refine o5 ?_ | refine o6 ?_ | refine k5 ?_ | (intro h; first | exact Bool.noConfusion h | exact nz _ h | exact nl h | (simp at h; done) | (simp at h; first | (exfalso; omega) | skip) | skip) | (change zx _ _ _ _; refine zd rfl trivial ?_) | exact (rfl : qB _ = true) | (refine (?_ : (0 : Int) ≤ _); omega) | (refine (?_ : _ ≠ _); omega) | (refine (?_ : z8 _ = zb _); rfl) | exact Nat.le_of_ble_eq_true rfl | exact (by kernel_rfl : zn _ _ = true) | refine za ?_ | refine eqv_size ?_ | refine xm (xZ ?_) | refine zL ?_ | refine zc (by omega) (by omega) ?_ | refine eqv_u64 (by omega) (by omega) ?_ | refine eqv_u8 (by omega) (by omega) ?_ | refine zi _ (xh rfl rfl) ?_ | refine ⟨_, _, (by first | rfl | assumption), zf (by assumption), ?_⟩ | refine ⟨_, _, (by first | rfl | assumption), (by assumption), ?_⟩ | refine ⟨_, zf (by assumption), (by decide), ?_⟩ | refine ⟨_, zf (by assumption), ?_⟩ | (refine (?_ : _ ≤ 140737488355328); simp [zb] <;> omega) | (refine (?_ : _ ≤ 9223372036854775807); simp [zb] <;> omega) | (refine (?_ : _ = zb _); simp [zb] <;> omega) | refine zi _ (qK rfl) (zi _ qY ?_) | refine zi _ (qb rfl) (zi 1 rfl ?_) | refine zj (zf (by assumption)) (by omega) ?_ | refine qp _ (by first | rfl | assumption) (by first | assumption | omega) ?_ | (change zp _ _ _ _ _; refine qi 0 rfl (by assumption) (by assumption) (by omega) (by omega) ?_; intro v kq hv1 hv2 hkq) | (change zp _ _ _ _ _; refine zaZ 0 rfl (by assumption) (by assumption) (by omega) (by omega) ?_; intro bq kq hkq) | (change zI _ _ _ _ _; refine qN 0 rfl (by assumption) (by assumption) (by omega) (by omega) ?_; intro v kq hv1 hv2 hkq) | (change zI _ _ _ _ _; refine zcn 0 rfl (by assumption) (by assumption) (by omega) (by omega) ?_; intro bq kq hkq) | fail)
   case' refine_1 => skip
   all_goals first
    | (exfalso; omega)
    | (refine ⟨(tt + 1, kq, l), ⟨by dsimp only; omega, hkq, by dsimp only; omega, fun _ => by dsimp only; exact hl1 (by omega), hld, hlc⟩, by dsimp only; omega, ?_⟩
       refine zJ [0, 1, 2, 3, 4] rfl rfl ?_ ?_
       · repeat' (first | exact trivial | exact rfl | exact zG rfl | refine zu rfl ?_ | refine zl z7 rfl ?_ | refine zl qe rfl ?_ | refine zl zV rfl ?_ | exact ⟨_, rfl, ALe.refl⟩ | refine And.intro ?_ ?_)
       · repeat' (first | exact trivial | exact rfl | exact zG rfl | refine zu rfl ?_ | refine zl z7 rfl ?_ | refine zl qe rfl ?_ | refine zl zV rfl ?_ | exact ⟨_, rfl, ALe.refl⟩ | refine And.intro ?_ ?_))
    | skip
   all_goals
    refine zB (fun z : Nat × List Opt => [(0, .ptr 0 2 0 0), (2, zg .i64 R), (6, .ptr 1 4 0 0), (7, .ptr 2 4 0 0), (8, zg .i64 n), (9, slP 4 6 (z.2.map Opt.row)), (10, zg .i64 tt), (11, zg .i64 cn), (12, zg .i64 z.1)])
     (fun z => [qd t kc, ql, evB (slP 3 1 (C.map zA)) qr qr, obP 51 1 (C.map zA), obP 62 6 (z.2.map Opt.row)])
     (fun z => z.1 ≤ R ∧ z.2.length ≤ tt * 3 + z.1 ∧ (1 ≤ tt + z.1 → 1 ≤ z.2.length) ∧ (∀ o ∈ z.2, o.place.time.day = 0 ∨ o.place.time.day = 1) ∧ ∀ o ∈ z.2, OptQ 2 o) (fun z => R - z.1) (0, l) ⟨Nat.zero_le _, hll, hl1, hld, hlc⟩ ?_ ?_
    · refine zJ [0, 1, 2, 3, 4] rfl rfl ?_ ?_
      · repeat' (first | exact trivial | exact rfl | exact zG rfl | refine zu rfl ?_ | refine zl z7 rfl ?_ | refine zl qe rfl ?_ | refine zl zV rfl ?_ | exact ⟨_, rfl, ALe.refl⟩ | refine And.intro ?_ ?_)
      · repeat' (first | exact trivial | exact rfl | exact zG rfl | refine zu rfl ?_ | refine zl z7 rfl ?_ | refine zl qe rfl ?_ | refine zl zV rfl ?_ | exact ⟨_, rfl, ALe.refl⟩ | refine And.intro ?_ ?_)
    rintro ⟨r, l⟩ ⟨hr, hll, hl1, hld, hlc⟩
    dsimp only at hr hll hl1 hld hlc ⊢
    dsimp only [evB, ql]
    rcases Nat.lt_or_ge r R with hrl | hrg
    · have hb1 : ((l.map Opt.row).length + 1) * 64 ≤ 140737488355328 := by rw [List.length_map]; omega
      have hb2 : (l.map Opt.row).length + 1 ≤ 9223372036854775807 := by rw [List.length_map]; omega
      repeat' (first | (refine xl ?_) | (refine z6 ?_) | (refine zcE (a := .seq (.region 15 _ _) _) (fun _ => []) (fun x : List Charge => [qd t kc, ql, evB (slP 3 1 (C.map zA)) qr qr, obP 51 1 (C.map zA), obP 62 6 (l.map Opt.row), ob6 tt r (.pv (.sl 2 (x.map Charge.row)))]) (fun x => OptQ 2 ⟨⟨⟨1, tt, 0, 1⟩, r⟩, x⟩) ?_) | ((refine zbB rfl rfl rfl rfl rfl rfl rfl rfl rfl rfl rfl hb1 hb2 ?_)) | refine o1 ?_ | refine o2 ?_ | refine k1 ?_ | refine k2 ?_ | refine k3 ?_ | refine k4 ?_ | refine k6 ?_ | refine k7 ?_ | refine k8 ?_ | refine And.intro ?_ ?_ | exact trivial | refine o3 ?_ | refine o4 ?_ | refine o5 ?_ | refine o6 ?_ | refine k5 ?_ | (intro h; first | exact Bool.noConfusion h | exact nz _ h | exact nl h | (simp at h; done) | (simp at h; first | (exfalso; omega) | skip) | skip) | (change zx _ _ _ _; refine zd rfl trivial ?_) | exact (rfl : qB _ = true) | (refine (?_ : (0 : Int) ≤ _); omega) | (refine (?_ : _ ≠ _); omega) | (refine (?_ : z8 _ = zb _); rfl) | exact Nat.le_of_ble_eq_true rfl | exact (by kernel_rfl : zn _ _ = true) | refine za ?_ | refine eqv_size ?_ | refine xm (xZ ?_) | refine zL ?_ | refine zc (by omega) (by omega) ?_ | refine eqv_u64 (by omega) (by omega) ?_ | refine eqv_u8 (by omega) (by omega) ?_ | refine zi _ (xh rfl rfl) ?_ | refine ⟨_, _, (by first | rfl | assumption), zf (by assumption), ?_⟩ | refine ⟨_, _, (by first | rfl | assumption), (by assumption), ?_⟩ | refine ⟨_, zf (by assumption), (by decide), ?_⟩ | refine ⟨_, zf (by assumption), ?_⟩ | (refine (?_ : _ ≤ 140737488355328); simp [zb] <;> omega) | (refine (?_ : _ ≤ 9223372036854775807); simp [zb] <;> omega) | (refine (?_ : _ = zb _); simp [zb] <;> omega) | refine zi _ (qK rfl) (zi _ qY ?_) | refine zi _ (qb rfl) (zi 1 rfl ?_) | refine zj (zf (by assumption)) (by omega) ?_ | refine qp _ (by first | rfl | assumption) (by first | assumption | omega) ?_ | fail)
      · refine ⟨[⟨0, cn⟩], ch_one (hcn.elim (fun h => by omega) id), zD.trans (zD.shut (i := 5) (c := 5) (x := .ms 6 2 0 1) rfl rfl rfl (by repeat' (first | trivial | refine And.intro ?_ ?_ | (show 0 + _ ≤ List.length _; simp))) (show ¬ (5 ∈ ([6] : List Nat)) by decide) (ALe.pv (zei (f := Charge.row) (l := [⟨0, cn⟩]) (by simp)))) (zJ [0, 1, 2, 3, 4, 5] rfl rfl ?_ ?_)⟩
        · repeat' (first | exact trivial | exact rfl | exact zG rfl | refine zu rfl ?_ | refine zl z7 rfl ?_ | refine zl qe rfl ?_ | refine zl zV rfl ?_ | exact ⟨_, rfl, ALe.refl⟩ | refine And.intro ?_ ?_)
        · repeat' (first | exact trivial | exact rfl | exact zG rfl | refine zu rfl ?_ | refine zl z7 rfl ?_ | refine zl qe rfl ?_ | refine zl zV rfl ?_ | exact ⟨_, rfl, ALe.refl⟩ | refine And.intro ?_ ?_)
      · refine ⟨[], ch_nil, zD.trans (zD.shut (i := 5) (c := 5) (x := .pv (.val (.slice none 0 0))) rfl rfl rfl (by repeat' (first | trivial | refine And.intro ?_ ?_ | (show 0 + _ ≤ List.length _; simp))) (show ¬ (5 ∈ ([] : List Nat)) by decide) (ALe.pv (PLe.nil (z := 2)))) (zJ [0, 1, 2, 3, 4, 5] rfl rfl ?_ ?_)⟩
        · repeat' (first | exact trivial | exact rfl | exact zG rfl | refine zu rfl ?_ | refine zl z7 rfl ?_ | refine zl qe rfl ?_ | refine zl zV rfl ?_ | exact ⟨_, rfl, ALe.refl⟩ | refine And.intro ?_ ?_)
        · repeat' (first | exact trivial | exact rfl | exact zG rfl | refine zu rfl ?_ | refine zl z7 rfl ?_ | refine zl qe rfl ?_ | refine zl zV rfl ?_ | exact ⟨_, rfl, ALe.refl⟩ | refine And.intro ?_ ?_)
      refine ⟨?_⟩
      intro x hx
      dsimp only [ql, evB, ob6]
      repeat' (first | (refine xl ?_) | (refine z6 ?_) | ((refine zbB rfl rfl rfl rfl rfl rfl rfl rfl rfl rfl rfl hb1 hb2 ?_)) | refine o1 ?_ | refine o2 ?_ | refine k1 ?_ | refine k2 ?_ | refine k3 ?_ | refine k4 ?_ | refine k6 ?_ | refine k7 ?_ | refine k8 ?_ | refine And.intro ?_ ?_ | exact trivial | refine o3 ?_ | refine o4 ?_ | refine o5 ?_ | refine o6 ?_ | refine k5 ?_ | (intro h; first | exact Bool.noConfusion h | exact nz _ h | exact nl h | (simp at h; done) | (simp at h; first | (exfalso; omega) | skip) | skip) | (change zx _ _ _ _; refine zd rfl trivial ?_) | exact (rfl : qB _ = true) | (refine (?_ : (0 : Int) ≤ _); omega) | (refine (?_ : _ ≠ _); omega) | (refine (?_ : z8 _ = zb _); rfl) | exact Nat.le_of_ble_eq_true rfl | exact (by kernel_rfl : zn _ _ = true) | refine za ?_ | refine eqv_size ?_ | refine xm (xZ ?_) | refine zL ?_ | refine zc (by omega) (by omega) ?_ | refine eqv_u64 (by omega) (by omega) ?_ | refine eqv_u8 (by omega) (by omega) ?_ | refine zi _ (xh rfl rfl) ?_ | refine ⟨_, _, (by first | rfl | assumption), zf (by assumption), ?_⟩ | refine ⟨_, _, (by first | rfl | assumption), (by assumption), ?_⟩ | refine ⟨_, zf (by assumption), (by decide), ?_⟩ | refine ⟨_, zf (by assumption), ?_⟩ | (refine (?_ : _ ≤ 140737488355328); simp [zb] <;> omega) | (refine (?_ : _ ≤ 9223372036854775807); simp [zb] <;> omega) | (refine (?_ : _ = zb _); simp [zb] <;> omega) | refine zi _ (qK rfl) (zi _ qY ?_) | refine zi _ (qb rfl) (zi 1 rfl ?_) | refine zj (zf (by assumption)) (by omega) ?_ | refine qp _ (by first | rfl | assumption) (by first | assumption | omega) ?_ | fail)
      refine ⟨(r + 1, l ++ [⟨⟨⟨1, tt, 0, 1⟩, r⟩, x⟩]), ⟨by dsimp only; omega, by dsimp only; rw [List.length_append]; simp only [List.length_cons, List.length_nil]; omega, fun _ => by dsimp only; rw [List.length_append]; simp only [List.length_cons, List.length_nil]; omega, zb1 (p := fun o : Opt => o.place.time.day = 0 ∨ o.place.time.day = 1) hld (by dsimp only; omega), zb1 hlc hx⟩, by dsimp only; omega, ?_⟩
      dsimp only
      rw [zM, qn, qo]
      refine zJ [0, 1, 2, 3, 7] rfl rfl ?_ ?_
      · repeat' (first | exact trivial | exact rfl | exact zG rfl | refine zu rfl ?_ | refine zl z7 rfl ?_ | refine zl qe rfl ?_ | refine zl zV rfl ?_ | exact ⟨_, rfl, ALe.refl⟩ | refine And.intro ?_ ?_)
      · repeat' (first | exact trivial | exact rfl | exact zG rfl | refine zu rfl ?_ | refine zl z7 rfl ?_ | refine zl qe rfl ?_ | refine zl zV rfl ?_ | exact ⟨_, rfl, ALe.refl⟩ | refine And.intro ?_ ?_)
    · obtain rfl : r = R := by omega
      repeat' (first | (refine xl ?_) | (refine z6 ?_) | refine o1 ?_ | refine o2 ?_ | refine k1 ?_ | refine k2 ?_ | refine k3 ?_ | refine k4 ?_ | refine k6 ?_ | refine k7 ?_ | refine k8 ?_ | refine And.intro ?_ ?_ | exact trivial | refine o3 ?_ | refine o4 ?_ | refine o5 ?_ | refine o6 ?_ | refine k5 ?_ | (intro h; first | exact Bool.noConfusion h | exact nz _ h | exact nl h | (simp at h; done) | (simp at h; first | (exfalso; omega) | skip) | skip) | (change zx _ _ _ _; refine zd rfl trivial ?_) | exact (rfl : qB _ = true) | (refine (?_ : (0 : Int) ≤ _); omega) | (refine (?_ : _ ≠ _); omega) | (refine (?_ : z8 _ = zb _); rfl) | exact Nat.le_of_ble_eq_true rfl | exact (by kernel_rfl : zn _ _ = true) | refine za ?_ | refine eqv_size ?_ | refine xm (xZ ?_) | refine zL ?_ | refine zc (by omega) (by omega) ?_ | refine eqv_u64 (by omega) (by omega) ?_ | refine eqv_u8 (by omega) (by omega) ?_ | refine zi _ (xh rfl rfl) ?_ | refine ⟨_, _, (by first | rfl | assumption), zf (by assumption), ?_⟩ | refine ⟨_, _, (by first | rfl | assumption), (by assumption), ?_⟩ | refine ⟨_, zf (by assumption), (by decide), ?_⟩ | refine ⟨_, zf (by assumption), ?_⟩ | (refine (?_ : _ ≤ 140737488355328); simp [zb] <;> omega) | (refine (?_ : _ ≤ 9223372036854775807); simp [zb] <;> omega) | (refine (?_ : _ = zb _); simp [zb] <;> omega) | refine zi _ (qK rfl) (zi _ qY ?_) | refine zi _ (qb rfl) (zi 1 rfl ?_) | refine zj (zf (by assumption)) (by omega) ?_ | refine qp _ (by first | rfl | assumption) (by first | assumption | omega) ?_ | fail)
      refine ⟨(tt + 1, kc, l), ⟨by dsimp only; omega, hkc, by dsimp only; omega, fun _ => by dsimp only; exact hl1 (by omega), hld, hlc⟩, by dsimp only; omega, ?_⟩
      dsimp only
      refine zJ [0, 1, 2, 3, 4] rfl rfl ?_ ?_
      · repeat' (first | exact trivial | exact rfl | exact zG rfl | refine zu rfl ?_ | refine zl z7 rfl ?_ | refine zl qe rfl ?_ | refine zl zV rfl ?_ | exact ⟨_, rfl, ALe.refl⟩ | refine And.intro ?_ ?_)
      · repeat' (first | exact trivial | exact rfl | exact zG rfl | refine zu rfl ?_ | refine zl z7 rfl ?_ | refine zl qe rfl ?_ | refine zl zV rfl ?_ | exact ⟨_, rfl, ALe.refl⟩ | refine And.intro ?_ ?_)
 obtain rfl : tt = 2 := by omega
 have hb1 : ((l.map Opt.row).length + 1) * 64 ≤ 140737488355328 := by rw [List.length_map]; omega
 have hb2 : (l.map Opt.row).length + 1 ≤ 9223372036854775807 := by rw [List.length_map]; omega
 have hb3 : ((C.map zA).length + 1) * 24 ≤ 140737488355328 := by rw [List.length_map]; omega
 have hb4 : (C.map zA).length + 1 ≤ 9223372036854775807 := by rw [List.length_map]; omega
 repeat' (first | (refine xl ?_) | (refine z6 ?_) | (refine zcE (a := .seq (.region 18 _ _) _) (fun x : Nat × List Opt => [(9, .pv (.sl 6 (x.2.map Opt.row)))]) (fun x => [qd t x.1, ql, evB (slP 3 1 (C.map zA)) qr qr, obP 51 1 (C.map zA)]) (fun x => x.1 ≤ t.length ∧ EvL x.2) ?_) | ((refine zbB rfl rfl rfl rfl rfl rfl rfl rfl rfl rfl rfl hb1 hb2 ?_)) | refine o1 ?_ | refine o2 ?_ | refine k1 ?_ | refine k2 ?_ | refine k3 ?_ | refine k4 ?_ | refine k6 ?_ | refine k7 ?_ | refine k8 ?_ | refine And.intro ?_ ?_ | exact trivial | refine o3 ?_ | refine o4 ?_ | refine o5 ?_ | refine o6 ?_ | refine k5 ?_ | (intro h; first | exact Bool.noConfusion h | exact nz _ h | exact nl h | (simp at h; done) | (simp at h; first | (exfalso; omega) | skip) | skip) | (change zx _ _ _ _; refine zd rfl trivial ?_) | exact (rfl : qB _ = true) | (refine (?_ : (0 : Int) ≤ _); omega) | (refine (?_ : _ ≠ _); omega) | (refine (?_ : z8 _ = zb _); rfl) | exact Nat.le_of_ble_eq_true rfl | exact (by kernel_rfl : zn _ _ = true) | refine za ?_ | refine eqv_size ?_ | refine xm (xZ ?_) | refine zL ?_ | refine zc (by omega) (by omega) ?_ | refine eqv_u64 (by omega) (by omega) ?_ | refine eqv_u8 (by omega) (by omega) ?_ | refine zi _ (xh rfl rfl) ?_ | refine ⟨_, _, (by first | rfl | assumption), zf (by assumption), ?_⟩ | refine ⟨_, _, (by first | rfl | assumption), (by assumption), ?_⟩ | refine ⟨_, zf (by assumption), (by decide), ?_⟩ | refine ⟨_, zf (by assumption), ?_⟩ | (refine (?_ : _ ≤ 140737488355328); simp [zb] <;> omega) | (refine (?_ : _ ≤ 9223372036854775807); simp [zb] <;> omega) | (refine (?_ : _ = zb _); simp [zb] <;> omega) | refine zi _ (qK rfl) (zi _ qY ?_) | refine zi _ (qb rfl) (zi 1 rfl ?_) | refine zj (zf (by assumption)) (by omega) ?_ | refine qp _ (by first | rfl | assumption) (by first | assumption | omega) ?_ | (change zp _ _ _ _ _; refine qi 0 rfl (by assumption) (by assumption) (by omega) (by omega) ?_; intro v kq hv1 hv2 hkq) | (change zp _ _ _ _ _; refine zaZ 0 rfl (by assumption) (by assumption) (by omega) (by omega) ?_; intro bq kq hkq) | (change zI _ _ _ _ _; refine qN 0 rfl (by assumption) (by assumption) (by omega) (by omega) ?_; intro v kq hv1 hv2 hkq) | (change zI _ _ _ _ _; refine zcn 0 rfl (by assumption) (by assumption) (by omega) (by omega) ?_; intro bq kq hkq) | fail)
 · refine ⟨(kq, l ++ [⟨⟨⟨2, 0, 0, 1⟩, -1⟩, []⟩]), ⟨hkq, ⟨by dsimp only; rw [List.length_append]; simp only [List.length_cons, List.length_nil]; omega, by dsimp only; rw [List.length_append]; simp only [List.length_cons, List.length_nil]; omega, zb1 (p := fun o : Opt => o.place.time.day = 0 ∨ o.place.time.day = 1) hld (.inl rfl), zb1 hlc ch_nil⟩⟩, zD.sl (s := 9) (id := 6) (rows := l.map Opt.row ++ [[ei 2, ei 0, ei 0, ei 1, ei (-1), .val (.slice none 0 0)]]) (by rw [qn]; rfl) (by rw [qo]; rfl) fun H' hl hH => zD.trans (zD.weak (s := 9) (y := .pv (.sl 6 (l.map Opt.row ++ [Opt.row ⟨⟨⟨2, 0, 0, 1⟩, -1⟩, []⟩]))) rfl (ALe.pv (PLe.sl (za1.app za1.refl ⟨⟨PLe.refl, PLe.refl, PLe.refl, PLe.refl, PLe.refl, PLe.nil, trivial⟩, trivial⟩)))) ?_⟩
   dsimp only
   rw [zM]
   refine zJ [0, 1, 2, 3] rfl rfl ⟨hH 0 (by decide), hH 1 (by decide), zl z7 (hH 2 (by decide)) (zu (hH 3 (by decide)) trivial)⟩ ?_
   repeat' (first | exact trivial | exact rfl | exact zG rfl | refine zu rfl ?_ | refine zl z7 rfl ?_ | refine zl qe rfl ?_ | refine zl zV rfl ?_ | exact ⟨_, rfl, ALe.refl⟩ | refine And.intro ?_ ?_)
 · refine ⟨(kq, l), ⟨hkq, ⟨by dsimp only; omega, by dsimp only; exact hl1 (by omega), hld, hlc⟩⟩, zD.sl (s := 9) (id := 4) (rows := l.map Opt.row) rfl rfl fun H' hl hH => ?_⟩
   refine zJ [0, 1, 2, 3] rfl rfl ⟨hH 0 (by decide), hH 1 (by decide), zl z7 (hH 2 (by decide)) (zu (hH 3 (by decide)) trivial)⟩ ?_
   repeat' (first | exact trivial | exact rfl | exact zG rfl | refine zu rfl ?_ | refine zl z7 rfl ?_ | refine zl qe rfl ?_ | refine zl zV rfl ?_ | exact ⟨_, rfl, ALe.refl⟩ | refine And.intro ?_ ?_)
 refine ⟨?_⟩
 rintro ⟨k, l⟩ ⟨hk, hl⟩
 dsimp only at hk hl ⊢
 dsimp only [ql, evB]
 repeat' (first | (refine xl ?_) | (refine z6 ?_) | ((refine zbB rfl rfl rfl rfl rfl rfl rfl rfl rfl rfl rfl hb3 hb4 ?_)) | refine o1 ?_ | refine o2 ?_ | refine k1 ?_ | refine k2 ?_ | refine k3 ?_ | refine k4 ?_ | refine k6 ?_ | refine k7 ?_ | refine k8 ?_ | refine And.intro ?_ ?_ | exact trivial | refine o3 ?_ | refine o4 ?_ | refine o5 ?_ | refine o6 ?_ | refine k5 ?_ | (intro h; first | exact Bool.noConfusion h | exact nz _ h | exact nl h | (simp at h; done) | (simp at h; first | (exfalso; omega) | skip) | skip) | (change zx _ _ _ _; refine zd rfl trivial ?_) | exact (rfl : qB _ = true) | (refine (?_ : (0 : Int) ≤ _); omega) | (refine (?_ : _ ≠ _); omega) | (refine (?_ : z8 _ = zb _); rfl) | exact Nat.le_of_ble_eq_true rfl | exact (by kernel_rfl : zn _ _ = true) | refine za ?_ | refine eqv_size ?_ | refine xm (xZ ?_) | refine zL ?_ | refine zc (by omega) (by omega) ?_ | refine eqv_u64 (by omega) (by omega) ?_ | refine eqv_u8 (by omega) (by omega) ?_ | refine zi _ (xh rfl rfl) ?_ | refine ⟨_, _, (by first | rfl | assumption), zf (by assumption), ?_⟩ | refine ⟨_, _, (by first | rfl | assumption), (by assumption), ?_⟩ | refine ⟨_, zf (by assumption), (by decide), ?_⟩ | refine ⟨_, zf (by assumption), ?_⟩ | (refine (?_ : _ ≤ 140737488355328); simp [zb] <;> omega) | (refine (?_ : _ ≤ 9223372036854775807); simp [zb] <;> omega) | (refine (?_ : _ = zb _); simp [zb] <;> omega) | refine zi _ (qK rfl) (zi _ qY ?_) | refine zi _ (qb rfl) (zi 1 rfl ?_) | refine zj (zf (by assumption)) (by omega) ?_ | refine qp _ (by first | rfl | assumption) (by first | assumption | omega) ?_ | fail)
 refine ⟨(n - 1, k, C ++ [l]), ⟨by dsimp only; rw [List.length_append]; simp only [List.length_cons, List.length_nil]; omega, hk, zb1 hC hl⟩, by dsimp only; omega, ?_⟩
 dsimp only
 rw [zM, qn, qo]
 refine zJ [0, 1, 2, 5] rfl rfl ?_ ⟨rfl, rfl, rfl, rfl, zk1 rfl (congrArg (zg .i64) (by show _ = ((n - 1 : Nat) : Int); omega)), trivial⟩
 repeat' (first | exact trivial | exact rfl | exact zG rfl | refine zu rfl ?_ | refine zl z7 rfl ?_ | refine zl qe rfl ?_ | refine zl zV rfl ?_ | exact ⟨_, rfl, ALe.refl⟩ | refine And.intro ?_ ?_)
theorem c_even (t : List Int) (k : Nat) (ht : t.length ≤ 400) (hk : k ≤ t.length) (a R : Nat) (ha : a ≤ 5) (hR : R ≤ 3) (hR1 : 1 ≤ R) :
  qf Tryz.prog 25 [.ptr 0 2 0 0, zg .i64 a, zg .i64 R] [qd t k] (fun r H' => ∃ (m : Model) (k' : Nat), k' ≤ t.length ∧ EvM m ∧ r = ag m.cells ∧ H' = [qd t k']) :=
 (c_evenA t k ht hk a R ha hR hR1).mono fun r H' ⟨m, k', h1, h2, h3⟩ => ⟨m, k', h1, h2.1, h3⟩
end Go.Proofs.YtihpjcmloecaaaaGreat.Cw
namespace Go.Proofs.YtihpjcmloecaaaaGreat.Cw
open Go.Cw Go.Proofs
set_option linter.unusedVariables false
set_option maxRecDepth 100000
set_option maxHeartbeats 1600000
structure PlQ (m : Model) (full : Bool) (l : List Int) (n : Nat) : Prop where
 len : l.length = n
 at_ : ∀ i, i < n → ∀ o, l[i]? = some o → ∀ c, m.classes[i]? = some c → (full = true → 0 ≤ o) ∧ o < c.length
end Go.Proofs.YtihpjcmloecaaaaGreat.Cw
namespace Go.Proofs.YtihpjcmloecaaaaGreat.Cw
open Go.Cw Go.Proofs
set_option linter.unusedVariables false
set_option maxRecDepth 100000
set_option maxHeartbeats 30000000
theorem zaF {α : Type} {f : α → List PV} {e : α} {l : List α} {K : Go.Cw.Rows → Nat → Prop} (h : K (.p (f e :: l.map f)) ((l.map f).length + 1)) : eqv (Go.Cw.Rows.p (List.map f (e :: l))) fun rr => eqv (zb rr) (K rr) :=
 ⟨_, rfl, _, by simp [zb], h⟩
theorem zbm {c : List AV} {K : Go.Cw.Rows → Nat → Prop} (h : K (.m [c]) 1) : eqv (Go.Cw.Rows.m (List.take 1 (List.drop 0 [c]))) fun rr => eqv (zb rr) (K rr) :=
 ⟨_, rfl, _, rfl, h⟩
theorem zcp {r1 : List PV} {xs : List (List PV)} {r : List AV} {K : Go.Cw.Rows → Nat → Prop} (h : K (.m ((r1 :: xs).map pvs ++ [r])) (xs.length + 2)) : eqv (Go.Cw.Rows.m ((List.drop 0 (r1 :: xs)).map pvs ++ List.take 1 (List.drop 0 [r]))) fun rr => eqv (zb rr) (K rr) :=
 ⟨_, rfl, _, by simp [zb], h⟩
theorem zdl {v : Int} {n : Nat} {K : Nat → Prop} (h1 : 0 ≤ v) (h2 : v < n) (h : ∀ k, k < n → K (0 + k)) : ∃ k : Nat, v = ↑k ∧ k < n ∧ eqv (0 + k) K :=
 ⟨v.toNat, by omega, by omega, _, rfl, h _ (by omega)⟩
theorem zaT {α : Type} {a b c d : α} {k n : Nat} {C : α → Prop} (hn : n = 4) (hk : k < n) (ha : C a) (hb : C b) (hc : C c) (hd : C d) : ∃ r, [a, b, c, d][0 + k]? = some r ∧ C r := by
 subst hn
 match k, hk with
 | 0, _ => exact ⟨a, rfl, ha⟩
 | 1, _ => exact ⟨b, rfl, hb⟩
 | 2, _ => exact ⟨c, rfl, hc⟩
 | 3, _ => exact ⟨d, rfl, hd⟩
theorem zev {α : Type} {r : α} {l : List α} {C : α → Prop} (h : C r) : ∃ x, (r :: l)[0]? = some x ∧ C x := ⟨_, rfl, h⟩
theorem zjj {r : List PV} {l : List (List PV)} {K : Go.Cw.Rows → Nat → Prop} (h : K (.p (r :: l)) (l.length + 1)) : eqv (Go.Cw.Rows.p (List.drop 0 [r] ++ l)) fun rr => eqv (zb rr) (K rr) := ⟨_, rfl, _, rfl, h⟩
theorem set0p {r x : List PV} {l : List (List PV)} {K : List (List PV) → Prop} (h : K (x :: l)) : eqv ((r :: l).set 0 x) K := ⟨_, rfl, h⟩
theorem set0m {r : List PV} {x : List AV} {l : List (List PV)} {K : List (List AV) → Prop} (h : K (x :: l.map pvs)) : eqv ((List.map pvs (r :: l)).set 0 x) K := ⟨_, rfl, h⟩
theorem zkH {α : Type} {x : α} {P : α → Prop} (h : P x) : ∀ r ∈ List.take 1 (List.drop 0 [x]), P r := fun r hr => by
 have : r ∈ [x] := hr
 rw [List.mem_singleton] at this; subst this; exact h
def YY {α : Type} (_ : α) : Prop := True
def OptL (o : Opt) : Prop := o.charges.length ≤ 9223372036854775807
def zqc (l : List Opt) : Prop := l.length ≤ 1000 ∧ ∀ o ∈ l, OptL o
def zqb (c : Count) : Prop := c.loads.length ≤ 9223372036854775807
def eI (n : Int) : List PV := [ei n]
section
variable {a b c d e : Int} {p : PV} {n : Nat}
theorem zc8 (h : zfk 6 Opt.row OptL 1000 p) : zdA zA zqc [p] := by
 obtain ⟨l, h0, h1, h2⟩ := h
 exact ⟨l, ⟨h0, h1⟩, h2, trivial⟩
theorem zc7 (h : zfk 2 Charge.row YY 1000 p) : zdA Opt.row OptL [ei a, ei b, ei c, ei d, ei e, p] := by
 obtain ⟨l, h0, h1, h2⟩ := h
 exact ⟨⟨⟨⟨a, b, c, d⟩, e⟩, l⟩, by show l.length ≤ _; omega, PLe.refl, PLe.refl, PLe.refl, PLe.refl, PLe.refl, h2, trivial⟩
theorem zai : zdA Charge.row YY [ei a, ei b] := ⟨⟨a, b⟩, trivial, zhA.refl⟩
theorem zfS (h : zfk 1 eI YY n p) : zdA Pair.row YY [ei a, ei b, ei c, p] := by
 obtain ⟨l, h0, h1, h2⟩ := h
 exact ⟨⟨a, b, c, l⟩, trivial, PLe.refl, PLe.refl, PLe.refl, h2, trivial⟩
theorem zaP (h : zfk 3 Load.row YY 1000 p) : zdA Count.row zqb [ei a, p, ei b, ei c] := by
 obtain ⟨l, h0, h1, h2⟩ := h
 exact ⟨⟨a, l, b, c⟩, by show l.length ≤ _; omega, PLe.refl, h2, PLe.refl, PLe.refl, trivial⟩
theorem zbG : zdA Load.row YY [ei a, ei b, ei c] := ⟨⟨a, b, c⟩, trivial, zhA.refl⟩
end
structure LaidX (y : Model) : Prop where
 laid : Laid y
 cn : y.classes.length ≤ 1000
 on : ∀ l ∈ y.classes, l.length ≤ 1000
theorem zaX {t : List Int} {c p n : PV} {ru : Int} (k : Nat) (hk : k ≤ t.length) (h1 : zfk 1 zA zqc 1000 c) (h2 : zfk 4 Pair.row YY 1000 p) (h3 : zfk 4 Count.row zqb 1000 n) :
  ∃ (y : Model) (k' : Nat), k' ≤ t.length ∧ LaidX y ∧ Leq (.agg [.pv c, .pv p, .pv n, zg .i64 ru]) (ag y.cells) ∧ [qd t k] = [qd t k'] := by
 obtain ⟨l1, a1, b1, c1⟩ := h1
 obtain ⟨l2, a2, b2, c2⟩ := h2
 obtain ⟨l3, a3, b3, c3⟩ := h3
 exact ⟨⟨l1, l2, l3, ru⟩, k, hk, ⟨⟨by show l1.length ≤ _; omega, by show l2.length ≤ _; omega, fun l hl => (b1 l hl).2, b3⟩, a1, fun l hl => (b1 l hl).1⟩, ⟨ALe.agg ⟨ALe.pv c1, ALe.pv c2, ALe.pv c3, ALe.refl, trivial⟩⟩, rfl⟩
end Go.Proofs.YtihpjcmloecaaaaGreat.Cw
namespace Go.Proofs.YtihpjcmloecaaaaGreat.Cw
open Go.Cw Go.Proofs
set_option linter.unusedVariables false
set_option maxRecDepth 100000
set_option maxHeartbeats 30000000
theorem c_odd000 (t : List Int) (k : Nat) (ht : t.length ≤ 400) (hk : k ≤ t.length) (ru : Int) (q1 : ∀ l ∈ ([] : List (List Opt)), zqc l) (q3 : ∀ c ∈ ([] : List Count), zqb c) (h1 : ([] : List (List Opt)).length ≤ 5) (h2 : ([] : List Pair).length ≤ 200) (h3 : ([] : List Count).length ≤ 6) (h4 : ∀ p ∈ ([] : List Pair), p.table.length ≤ 100) :
  qf Tryz.prog 33 [.ptr 0 2 0 0, ag (Model.cells ⟨[], [], [], ru⟩)] [qd t k] (fun r H' => ∃ (y : Model) (k' : Nat), k' ≤ t.length ∧ LaidX y ∧ Leq r (ag y.cells) ∧ H' = [qd t k']) := by
 have q2 : ∀ p ∈ ([] : List Pair), YY p := fun _ _ => trivial
 dsimp only [Model.cells]
 refine zh tok mixed 126 rfl (fn := Tryz.f33) (c := Tryz.f33.body.getD .skip) (by kernel_rfl) (by kernel_rfl) (by kernel_rfl) rfl 1 rfl ?_
 repeat' (first | refine o1 ?_ | refine o2 ?_ | refine k1 ?_ | refine k2 ?_ | refine k3 ?_ | refine k4 ?_ | refine k6 ?_ | refine k7 ?_ | refine And.intro ?_ ?_ | refine o3 ?_ | refine o4 ?_ | (intro h; first | exact Bool.noConfusion h | exact nz _ h | exact nl h | (simp at h; done) | (simp at h; first | (exfalso; omega) | skip) | skip) | (refine (?_ : z8 _ = zb _); rfl) | exact Nat.le_of_ble_eq_true rfl | exact (by kernel_rfl : zn _ _ = true) | refine zc (by omega) (by omega) ?_ | (refine (?_ : _ ≤ 9223372036854775807); simp [zb] <;> omega) | refine zi _ (qb rfl) (zi 1 rfl ?_) | (change zp _ _ _ _ _; refine qi 0 rfl (by assumption) (by assumption) (by omega) (by omega) ?_; intro v kq hv1 hv2 hkq) | (change zI _ _ _ _ _; refine qN 0 rfl (by assumption) (by assumption) (by omega) (by omega) ?_; intro v kq hv1 hv2 hkq) | (refine zbm ?_) | (refine zdl (by assumption) (by assumption) (fun kx hkx => ?_)) | (refine zaT rfl (by assumption) ?_ ?_ ?_ ?_) | (refine ⟨(24 + v).toNat, (24 + v).toNat, by omega, by omega, Nat.le_refl _, ?_⟩) | ((refine (?_ : Int.toNat _ * _ ≤ _); omega)) | (refine (zcG ?_ : eqv (List.replicate _ _) _)) | fail)
 all_goals try (refine zbH [0] [qd t kq] rfl rfl ⟨rfl, trivial⟩ rfl (by repeat' (first | exact True.intro | refine And.intro ?_ ?_ | (show 0 + _ ≤ List.length _; simp) | refine zkH ?_)) rfl (zaX kq hkq ?_ ?_ ?_))
 all_goals repeat' (first | exact zfk.nil | refine zfk.sl ?_ (by simp <;> omega) | exact zK.map (by assumption) | exact zK.nil | refine zK.cons ?_ ?_ | refine zK.take ?_ | refine zK.drop ?_ | refine zK.rep ?_ | exact zbG | exact zai | refine zaP ?_ | refine zc7 ?_ | refine zc8 ?_)
theorem c_odd001 (t : List Int) (k : Nat) (ht : t.length ≤ 400) (hk : k ≤ t.length) (l0 : List Opt) (cls : List (List Opt)) (ru : Int) (q1 : ∀ l ∈ (l0 :: cls : List (List Opt)), zqc l) (q3 : ∀ c ∈ ([] : List Count), zqb c) (h1 : (l0 :: cls : List (List Opt)).length ≤ 5) (h2 : ([] : List Pair).length ≤ 200) (h3 : ([] : List Count).length ≤ 6) (h4 : ∀ p ∈ ([] : List Pair), p.table.length ≤ 100) :
  qf Tryz.prog 33 [.ptr 0 2 0 0, ag (Model.cells ⟨l0 :: cls, [], [], ru⟩)] [qd t k] (fun r H' => ∃ (y : Model) (k' : Nat), k' ≤ t.length ∧ LaidX y ∧ Leq r (ag y.cells) ∧ H' = [qd t k']) := by
 have q2 : ∀ p ∈ ([] : List Pair), YY p := fun _ _ => trivial
 obtain ⟨q1a, q1b⟩ := List.forall_mem_cons.1 q1
 simp only [List.length_cons] at h1
 dsimp only [Model.cells]
 refine zh tok mixed 126 rfl (fn := Tryz.f33) (c := Tryz.f33.body.getD .skip) (by kernel_rfl) (by kernel_rfl) (by kernel_rfl) rfl 1 rfl ?_
 repeat' (first | ((refine retL rfl rfl rfl ?_ rfl rfl rfl ?_; · repeat' (first | exact True.intro | refine And.intro ?_ ?_ | (show 0 + _ ≤ List.length _; simp) | refine zkH ?_))) | refine o1 ?_ | refine o2 ?_ | refine k1 ?_ | refine k2 ?_ | refine k3 ?_ | refine k4 ?_ | refine k6 ?_ | refine k7 ?_ | refine And.intro ?_ ?_ | refine o3 ?_ | refine o4 ?_ | (intro h; first | exact Bool.noConfusion h | exact nz _ h | exact nl h | (simp at h; done) | (simp at h; first | (exfalso; omega) | skip) | skip) | (refine (?_ : z8 _ = zb _); rfl) | exact Nat.le_of_ble_eq_true rfl | exact (by kernel_rfl : zn _ _ = true) | refine zc (by omega) (by omega) ?_ | (refine (?_ : _ ≤ 140737488355328); simp [zb] <;> omega) | (refine (?_ : _ ≤ 9223372036854775807); simp [zb] <;> omega) | (refine (?_ : _ = zb _); simp [zb] <;> omega) | refine zi _ (qb rfl) (zi 1 rfl ?_) | (change zp _ _ _ _ _; refine qi 0 rfl (by assumption) (by assumption) (by omega) (by omega) ?_; intro v kq hv1 hv2 hkq) | (change zI _ _ _ _ _; refine qN 0 rfl (by assumption) (by assumption) (by omega) (by omega) ?_; intro v kq hv1 hv2 hkq) | (refine zaF ?_) | (refine zbm ?_) | (refine zcp ?_) | (refine zdl (by assumption) (by assumption) (fun kx hkx => ?_)) | (refine zaT rfl (by assumption) ?_ ?_ ?_ ?_) | (refine ⟨(24 + v).toNat, (24 + v).toNat, by omega, by omega, Nat.le_refl _, ?_⟩) | ((refine (?_ : Int.toNat _ * _ ≤ _); omega)) | (refine (zcG ?_ : eqv (List.replicate _ _) _)) | fail)
 all_goals try (refine zbH [0] [qd t kq] rfl rfl ⟨rfl, trivial⟩ rfl (by repeat' (first | exact True.intro | refine And.intro ?_ ?_ | (show 0 + _ ≤ List.length _; simp) | refine zkH ?_)) rfl (zaX kq hkq ?_ ?_ ?_))
 all_goals repeat' (first | exact zfk.nil | refine zfk.sl ?_ (by simp <;> omega) | exact zK.map (by assumption) | exact zK.nil | refine zK.cons ?_ ?_ | refine zK.app ?_ ?_ | refine zK.take ?_ | refine zK.drop ?_ | refine zK.rep ?_ | exact zdA.mk (by assumption) zhA.refl | exact zbG | exact zai | refine zaP ?_ | refine zc7 ?_ | refine zc8 ?_)
end Go.Proofs.YtihpjcmloecaaaaGreat.Cw
namespace Go.Proofs.YtihpjcmloecaaaaGreat.Cw
open Go.Cw Go.Proofs
set_option linter.unusedVariables false
set_option maxRecDepth 100000
set_option maxHeartbeats 30000000
theorem c_odd010 (t : List Int) (k : Nat) (ht : t.length ≤ 400) (hk : k ≤ t.length) (c0 : Count) (cts : List Count) (ru : Int) (q1 : ∀ l ∈ ([] : List (List Opt)), zqc l) (q3 : ∀ c ∈ (c0 :: cts : List Count), zqb c) (h1 : ([] : List (List Opt)).length ≤ 5) (h2 : ([] : List Pair).length ≤ 200) (h3 : (c0 :: cts : List Count).length ≤ 6) (h4 : ∀ p ∈ ([] : List Pair), p.table.length ≤ 100) :
  qf Tryz.prog 33 [.ptr 0 2 0 0, ag (Model.cells ⟨[], [], c0 :: cts, ru⟩)] [qd t k] (fun r H' => ∃ (y : Model) (k' : Nat), k' ≤ t.length ∧ LaidX y ∧ Leq r (ag y.cells) ∧ H' = [qd t k']) := by
 have q2 : ∀ p ∈ ([] : List Pair), YY p := fun _ _ => trivial
 obtain ⟨q3a, q3b⟩ := List.forall_mem_cons.1 q3
 simp only [List.length_cons] at h3
 dsimp only [Model.cells]
 refine zh tok mixed 126 rfl (fn := Tryz.f33) (c := Tryz.f33.body.getD .skip) (by kernel_rfl) (by kernel_rfl) (by kernel_rfl) rfl 1 rfl ?_
 repeat' (first | ((refine retL rfl rfl rfl ?_ rfl rfl rfl ?_; · repeat' (first | exact True.intro | refine And.intro ?_ ?_ | (show 0 + _ ≤ List.length _; simp) | refine zkH ?_))) | refine o1 ?_ | refine o2 ?_ | refine k1 ?_ | refine k2 ?_ | refine k3 ?_ | refine k4 ?_ | refine k6 ?_ | refine k7 ?_ | refine And.intro ?_ ?_ | refine o3 ?_ | refine o4 ?_ | (intro h; first | exact Bool.noConfusion h | exact nz _ h | exact nl h | (simp at h; done) | (simp at h; first | (exfalso; omega) | skip) | skip) | (refine (?_ : z8 _ = zb _); rfl) | exact Nat.le_of_ble_eq_true rfl | exact (by kernel_rfl : zn _ _ = true) | refine zc (by omega) (by omega) ?_ | (refine (?_ : _ ≤ 140737488355328); simp [zb] <;> omega) | (refine (?_ : _ ≤ 9223372036854775807); simp [zb] <;> omega) | (refine (?_ : _ = zb _); simp [zb] <;> omega) | (change zp _ _ _ _ _; refine qi 0 rfl (by assumption) (by assumption) (by omega) (by omega) ?_; intro v kq hv1 hv2 hkq) | (change zI _ _ _ _ _; refine qN 0 rfl (by assumption) (by assumption) (by omega) (by omega) ?_; intro v kq hv1 hv2 hkq) | (refine zaF ?_) | (refine zbm ?_) | (refine zcp ?_) | (refine zdK ?_) | (refine zdl (by assumption) (by assumption) (fun kx hkx => ?_)) | (refine zaT rfl (by assumption) ?_ ?_ ?_ ?_) | (refine ⟨(24 + v).toNat, (24 + v).toNat, by omega, by omega, Nat.le_refl _, ?_⟩) | ((refine (?_ : Int.toNat _ * _ ≤ _); omega)) | (refine (zcG ?_ : eqv (List.replicate _ _) _)) | fail)
 all_goals try (refine zbH [0] [qd t kq] rfl rfl ⟨rfl, trivial⟩ rfl (by repeat' (first | exact True.intro | refine And.intro ?_ ?_ | (show 0 + _ ≤ List.length _; simp) | refine zkH ?_)) rfl (zaX kq hkq ?_ ?_ ?_))
 all_goals repeat' (first | exact zfk.nil | refine zfk.sl ?_ (by simp <;> omega) | exact zK.map (by assumption) | exact zK.nil | refine zK.cons ?_ ?_ | refine zK.app ?_ ?_ | refine zK.take ?_ | refine zK.drop ?_ | refine zK.rep ?_ | exact zdA.mk (by assumption) zhA.refl | exact zbG | exact zai | refine zaP ?_ | refine zc7 ?_ | refine zc8 ?_)
theorem c_odd011 (t : List Int) (k : Nat) (ht : t.length ≤ 400) (hk : k ≤ t.length) (c0 : Count) (cts : List Count) (l0 : List Opt) (cls : List (List Opt)) (ru : Int) (q1 : ∀ l ∈ (l0 :: cls : List (List Opt)), zqc l) (q3 : ∀ c ∈ (c0 :: cts : List Count), zqb c) (h1 : (l0 :: cls : List (List Opt)).length ≤ 5) (h2 : ([] : List Pair).length ≤ 200) (h3 : (c0 :: cts : List Count).length ≤ 6) (h4 : ∀ p ∈ ([] : List Pair), p.table.length ≤ 100) :
  qf Tryz.prog 33 [.ptr 0 2 0 0, ag (Model.cells ⟨l0 :: cls, [], c0 :: cts, ru⟩)] [qd t k] (fun r H' => ∃ (y : Model) (k' : Nat), k' ≤ t.length ∧ LaidX y ∧ Leq r (ag y.cells) ∧ H' = [qd t k']) := by
 have q2 : ∀ p ∈ ([] : List Pair), YY p := fun _ _ => trivial
 obtain ⟨q3a, q3b⟩ := List.forall_mem_cons.1 q3
 simp only [List.length_cons] at h3
 obtain ⟨q1a, q1b⟩ := List.forall_mem_cons.1 q1
 simp only [List.length_cons] at h1
 dsimp only [Model.cells]
 refine zh tok mixed 126 rfl (fn := Tryz.f33) (c := Tryz.f33.body.getD .skip) (by kernel_rfl) (by kernel_rfl) (by kernel_rfl) rfl 1 rfl ?_
 repeat' (first | ((refine retL rfl rfl rfl ?_ rfl rfl rfl ?_; · repeat' (first | exact True.intro | refine And.intro ?_ ?_ | (show 0 + _ ≤ List.length _; simp) | refine zkH ?_))) | refine o1 ?_ | refine o2 ?_ | refine k1 ?_ | refine k2 ?_ | refine k3 ?_ | refine k4 ?_ | refine k6 ?_ | refine k7 ?_ | refine And.intro ?_ ?_ | refine o3 ?_ | refine o4 ?_ | (intro h; first | exact Bool.noConfusion h | exact nz _ h | exact nl h | (simp at h; done) | (simp at h; first | (exfalso; omega) | skip) | skip) | (refine (?_ : z8 _ = zb _); rfl) | exact Nat.le_of_ble_eq_true rfl | exact (by kernel_rfl : zn _ _ = true) | refine zc (by omega) (by omega) ?_ | (refine (?_ : _ ≤ 140737488355328); simp [zb] <;> omega) | (refine (?_ : _ ≤ 9223372036854775807); simp [zb] <;> omega) | (refine (?_ : _ = zb _); simp [zb] <;> omega) | (change zp _ _ _ _ _; refine qi 0 rfl (by assumption) (by assumption) (by omega) (by omega) ?_; intro v kq hv1 hv2 hkq) | (change zI _ _ _ _ _; refine qN 0 rfl (by assumption) (by assumption) (by omega) (by omega) ?_; intro v kq hv1 hv2 hkq) | (refine zaF ?_) | (refine zcp ?_) | (refine zdK ?_) | (refine zdl (by assumption) (by assumption) (fun kx hkx => ?_)) | (refine zaT rfl (by assumption) ?_ ?_ ?_ ?_) | (refine ⟨(24 + v).toNat, (24 + v).toNat, by omega, by omega, Nat.le_refl _, ?_⟩) | ((refine (?_ : Int.toNat _ * _ ≤ _); omega)) | (refine (zcG ?_ : eqv (List.replicate _ _) _)) | fail)
 all_goals try (refine zbH [0] [qd t kq] rfl rfl ⟨rfl, trivial⟩ rfl (by repeat' (first | exact True.intro | refine And.intro ?_ ?_ | (show 0 + _ ≤ List.length _; simp))) rfl (zaX kq hkq ?_ ?_ ?_))
 all_goals repeat' (first | exact zfk.nil | refine zfk.sl ?_ (by simp <;> omega) | exact zK.map (by assumption) | exact zK.nil | refine zK.cons ?_ ?_ | refine zK.app ?_ ?_ | refine zK.take ?_ | refine zK.drop ?_ | refine zK.rep ?_ | exact zdA.mk (by assumption) zhA.refl | exact zbG | exact zai | refine zaP ?_ | refine zc7 ?_ | refine zc8 ?_)
end Go.Proofs.YtihpjcmloecaaaaGreat.Cw
namespace Go.Proofs.YtihpjcmloecaaaaGreat.Cw
open Go.Cw Go.Proofs
set_option linter.unusedVariables false
set_option maxRecDepth 100000
set_option maxHeartbeats 30000000
theorem c_odd100 (t : List Int) (k : Nat) (ht : t.length ≤ 400) (hk : k ≤ t.length) (p0 : Pair) (prs : List Pair) (ru : Int) (q1 : ∀ l ∈ ([] : List (List Opt)), zqc l) (q3 : ∀ c ∈ ([] : List Count), zqb c) (h1 : ([] : List (List Opt)).length ≤ 5) (h2 : (p0 :: prs : List Pair).length ≤ 200) (h3 : ([] : List Count).length ≤ 6) (h4 : ∀ p ∈ (p0 :: prs : List Pair), p.table.length ≤ 100) :
  qf Tryz.prog 33 [.ptr 0 2 0 0, ag (Model.cells ⟨[], p0 :: prs, [], ru⟩)] [qd t k] (fun r H' => ∃ (y : Model) (k' : Nat), k' ≤ t.length ∧ LaidX y ∧ Leq r (ag y.cells) ∧ H' = [qd t k']) := by
 have q2 : ∀ p ∈ (p0 :: prs : List Pair), YY p := fun _ _ => trivial
 have h5 := h4 p0 (by simp)
 obtain ⟨q2a, q2b⟩ := List.forall_mem_cons.1 q2
 simp only [List.length_cons] at h2
 dsimp only [Model.cells]
 refine zh tok mixed 126 rfl (fn := Tryz.f33) (c := Tryz.f33.body.getD .skip) (by kernel_rfl) (by kernel_rfl) (by kernel_rfl) rfl 1 rfl ?_
 repeat' (first | ((refine ret0 rfl rfl rfl ?_ rfl rfl rfl ?_; · repeat' (first | exact True.intro | refine And.intro ?_ ?_ | (show 0 + _ ≤ List.length _; simp) | refine zkH ?_))) | refine o1 ?_ | refine o2 ?_ | refine k1 ?_ | refine k2 ?_ | refine k3 ?_ | refine k4 ?_ | refine k7 ?_ | refine And.intro ?_ ?_ | refine o3 ?_ | refine o4 ?_ | (intro h; first | exact Bool.noConfusion h | exact nz _ h | exact nl h | (simp at h; done) | (simp at h; first | (exfalso; omega) | skip) | skip) | (refine (?_ : z8 _ = zb _); rfl) | exact Nat.le_of_ble_eq_true rfl | exact (by kernel_rfl : zn _ _ = true) | refine zL ?_ | refine zc (by omega) (by omega) ?_ | (refine (?_ : _ ≤ 140737488355328); simp [zb] <;> omega) | (refine (?_ : _ ≤ 9223372036854775807); simp [zb] <;> omega) | (refine (?_ : _ = zb _); simp [zb] <;> omega) | refine zi _ (qb rfl) (zi 1 rfl ?_) | refine qp _ (by first | rfl | assumption) (by first | assumption | omega) ?_ | (change zp _ _ _ _ _; refine qi 0 rfl (by assumption) (by assumption) (by omega) (by omega) ?_; intro v kq hv1 hv2 hkq) | (change zI _ _ _ _ _; refine qN 0 rfl (by assumption) (by assumption) (by omega) (by omega) ?_; intro v kq hv1 hv2 hkq) | (refine zaF ?_) | (refine zbm ?_) | (refine zdK ?_) | (refine zjj ?_) | (refine set0p ?_) | (refine set0m ?_) | (refine zev ?_) | (refine zdl (by assumption) (by assumption) (fun kx hkx => ?_)) | (refine zaT rfl (by assumption) ?_ ?_ ?_ ?_) | (refine ⟨(24 + v).toNat, (24 + v).toNat, by omega, by omega, Nat.le_refl _, ?_⟩) | ((refine (?_ : Int.toNat _ * _ ≤ _); omega)) | (refine (zcG ?_ : eqv (List.replicate _ _) _)) | fail)
 all_goals try (refine zbH [0] [qd t kq] rfl rfl ⟨rfl, trivial⟩ rfl (by repeat' (first | exact True.intro | refine And.intro ?_ ?_ | (show 0 + _ ≤ List.length _; simp) | refine zkH ?_)) rfl (zaX kq hkq ?_ ?_ ?_))
 all_goals repeat' (first | exact zfk.nil | refine zfk.sl ?_ (by simp <;> omega) | exact zK.map (by assumption) | exact zK.map (f := eI) (fun _ _ => trivial) | exact zK.nil | refine zK.cons ?_ ?_ | refine zK.app ?_ ?_ | refine zK.take ?_ | refine zK.drop ?_ | refine zK.rep ?_ | exact zdA.mk (by assumption) zhA.refl | exact zbG | exact zai | refine zaP ?_ | refine zfS (n := 1000) ?_ | refine zc7 ?_ | refine zc8 ?_)
theorem c_odd101 (t : List Int) (k : Nat) (ht : t.length ≤ 400) (hk : k ≤ t.length) (p0 : Pair) (prs : List Pair) (l0 : List Opt) (cls : List (List Opt)) (ru : Int) (q1 : ∀ l ∈ (l0 :: cls : List (List Opt)), zqc l) (q3 : ∀ c ∈ ([] : List Count), zqb c) (h1 : (l0 :: cls : List (List Opt)).length ≤ 5) (h2 : (p0 :: prs : List Pair).length ≤ 200) (h3 : ([] : List Count).length ≤ 6) (h4 : ∀ p ∈ (p0 :: prs : List Pair), p.table.length ≤ 100) :
  qf Tryz.prog 33 [.ptr 0 2 0 0, ag (Model.cells ⟨l0 :: cls, p0 :: prs, [], ru⟩)] [qd t k] (fun r H' => ∃ (y : Model) (k' : Nat), k' ≤ t.length ∧ LaidX y ∧ Leq r (ag y.cells) ∧ H' = [qd t k']) := by
 have q2 : ∀ p ∈ (p0 :: prs : List Pair), YY p := fun _ _ => trivial
 have h5 := h4 p0 (by simp)
 obtain ⟨q2a, q2b⟩ := List.forall_mem_cons.1 q2
 simp only [List.length_cons] at h2
 obtain ⟨q1a, q1b⟩ := List.forall_mem_cons.1 q1
 simp only [List.length_cons] at h1
 dsimp only [Model.cells]
 refine zh tok mixed 126 rfl (fn := Tryz.f33) (c := Tryz.f33.body.getD .skip) (by kernel_rfl) (by kernel_rfl) (by kernel_rfl) rfl 1 rfl ?_
 repeat' (first | ((refine retL rfl rfl rfl ?_ rfl rfl rfl ?_; · repeat' (first | exact True.intro | refine And.intro ?_ ?_ | (show 0 + _ ≤ List.length _; simp) | refine zkH ?_))) | ((refine ret0 rfl rfl rfl ?_ rfl rfl rfl ?_; · repeat' (first | exact True.intro | refine And.intro ?_ ?_ | (show 0 + _ ≤ List.length _; simp) | refine zkH ?_))) | refine o1 ?_ | refine o2 ?_ | refine k1 ?_ | refine k2 ?_ | refine k3 ?_ | refine k4 ?_ | refine k7 ?_ | refine And.intro ?_ ?_ | refine o3 ?_ | refine o4 ?_ | (intro h; first | exact Bool.noConfusion h | exact nz _ h | exact nl h | (simp at h; done) | (simp at h; first | (exfalso; omega) | skip) | skip) | (refine (?_ : z8 _ = zb _); rfl) | exact Nat.le_of_ble_eq_true rfl | exact (by kernel_rfl : zn _ _ = true) | refine zL ?_ | refine zc (by omega) (by omega) ?_ | (refine (?_ : _ ≤ 140737488355328); simp [zb] <;> omega) | (refine (?_ : _ ≤ 9223372036854775807); simp [zb] <;> omega) | (refine (?_ : _ = zb _); simp [zb] <;> omega) | refine zi _ (qb rfl) (zi 1 rfl ?_) | refine qp _ (by first | rfl | assumption) (by first | assumption | omega) ?_ | (change zp _ _ _ _ _; refine qi 0 rfl (by assumption) (by assumption) (by omega) (by omega) ?_; intro v kq hv1 hv2 hkq) | (change zI _ _ _ _ _; refine qN 0 rfl (by assumption) (by assumption) (by omega) (by omega) ?_; intro v kq hv1 hv2 hkq) | (refine zaF ?_) | (refine zbm ?_) | (refine zcp ?_) | (refine zdK ?_) | (refine zjj ?_) | (refine set0p ?_) | (refine set0m ?_) | (refine zev ?_) | (refine zdl (by assumption) (by assumption) (fun kx hkx => ?_)) | (refine zaT rfl (by assumption) ?_ ?_ ?_ ?_) | (refine ⟨(24 + v).toNat, (24 + v).toNat, by omega, by omega, Nat.le_refl _, ?_⟩) | ((refine (?_ : Int.toNat _ * _ ≤ _); omega)) | (refine (zcG ?_ : eqv (List.replicate _ _) _)) | fail)
 all_goals try (refine zbH [0] [qd t kq] rfl rfl ⟨rfl, trivial⟩ rfl (by repeat' (first | exact True.intro | refine And.intro ?_ ?_ | (show 0 + _ ≤ List.length _; simp) | refine zkH ?_)) rfl (zaX kq hkq ?_ ?_ ?_))
 all_goals repeat' (first | exact zfk.nil | refine zfk.sl ?_ (by simp <;> omega) | exact zK.map (by assumption) | exact zK.map (f := eI) (fun _ _ => trivial) | exact zK.nil | refine zK.cons ?_ ?_ | refine zK.app ?_ ?_ | refine zK.take ?_ | refine zK.drop ?_ | refine zK.rep ?_ | exact zdA.mk (by assumption) zhA.refl | exact zbG | exact zai | refine zaP ?_ | refine zfS (n := 1000) ?_ | refine zc7 ?_ | refine zc8 ?_)
end Go.Proofs.YtihpjcmloecaaaaGreat.Cw
namespace Go.Proofs.YtihpjcmloecaaaaGreat.Cw
open Go.Cw Go.Proofs
set_option linter.unusedVariables false
set_option maxRecDepth 100000
set_option maxHeartbeats 30000000
theorem c_odd110 (t : List Int) (k : Nat) (ht : t.length ≤ 400) (hk : k ≤ t.length) (p0 : Pair) (prs : List Pair) (c0 : Count) (cts : List Count) (ru : Int) (q1 : ∀ l ∈ ([] : List (List Opt)), zqc l) (q3 : ∀ c ∈ (c0 :: cts : List Count), zqb c) (h1 : ([] : List (List Opt)).length ≤ 5) (h2 : (p0 :: prs : List Pair).length ≤ 200) (h3 : (c0 :: cts : List Count).length ≤ 6) (h4 : ∀ p ∈ (p0 :: prs : List Pair), p.table.length ≤ 100) :
  qf Tryz.prog 33 [.ptr 0 2 0 0, ag (Model.cells ⟨[], p0 :: prs, c0 :: cts, ru⟩)] [qd t k] (fun r H' => ∃ (y : Model) (k' : Nat), k' ≤ t.length ∧ LaidX y ∧ Leq r (ag y.cells) ∧ H' = [qd t k']) := by
 have q2 : ∀ p ∈ (p0 :: prs : List Pair), YY p := fun _ _ => trivial
 have h5 := h4 p0 (by simp)
 obtain ⟨q2a, q2b⟩ := List.forall_mem_cons.1 q2
 simp only [List.length_cons] at h2
 obtain ⟨q3a, q3b⟩ := List.forall_mem_cons.1 q3
 simp only [List.length_cons] at h3
 dsimp only [Model.cells]
 refine zh tok mixed 126 rfl (fn := Tryz.f33) (c := Tryz.f33.body.getD .skip) (by kernel_rfl) (by kernel_rfl) (by kernel_rfl) rfl 1 rfl ?_
 repeat' (first | ((refine retL rfl rfl rfl ?_ rfl rfl rfl ?_; · repeat' (first | exact True.intro | refine And.intro ?_ ?_ | (show 0 + _ ≤ List.length _; simp) | refine zkH ?_))) | ((refine ret0 rfl rfl rfl ?_ rfl rfl rfl ?_; · repeat' (first | exact True.intro | refine And.intro ?_ ?_ | (show 0 + _ ≤ List.length _; simp) | refine zkH ?_))) | refine o1 ?_ | refine o2 ?_ | refine k1 ?_ | refine k2 ?_ | refine k3 ?_ | refine k4 ?_ | refine k7 ?_ | refine And.intro ?_ ?_ | refine o3 ?_ | refine o4 ?_ | (intro h; first | exact Bool.noConfusion h | exact nz _ h | exact nl h | (simp at h; done) | (simp at h; first | (exfalso; omega) | skip) | skip) | (refine (?_ : z8 _ = zb _); rfl) | exact Nat.le_of_ble_eq_true rfl | exact (by kernel_rfl : zn _ _ = true) | refine zL ?_ | refine zc (by omega) (by omega) ?_ | (refine (?_ : _ ≤ 140737488355328); simp [zb] <;> omega) | (refine (?_ : _ ≤ 9223372036854775807); simp [zb] <;> omega) | (refine (?_ : _ = zb _); simp [zb] <;> omega) | refine qp _ (by first | rfl | assumption) (by first | assumption | omega) ?_ | (change zp _ _ _ _ _; refine qi 0 rfl (by assumption) (by assumption) (by omega) (by omega) ?_; intro v kq hv1 hv2 hkq) | (change zI _ _ _ _ _; refine qN 0 rfl (by assumption) (by assumption) (by omega) (by omega) ?_; intro v kq hv1 hv2 hkq) | (refine zaF ?_) | (refine zbm ?_) | (refine zcp ?_) | (refine zdK ?_) | (refine zjj ?_) | (refine set0p ?_) | (refine set0m ?_) | (refine zev ?_) | (refine zdl (by assumption) (by assumption) (fun kx hkx => ?_)) | (refine zaT rfl (by assumption) ?_ ?_ ?_ ?_) | (refine ⟨(24 + v).toNat, (24 + v).toNat, by omega, by omega, Nat.le_refl _, ?_⟩) | ((refine (?_ : Int.toNat _ * _ ≤ _); omega)) | (refine (zcG ?_ : eqv (List.replicate _ _) _)) | fail)
 all_goals try (refine zbH [0] [qd t kq] rfl rfl ⟨rfl, trivial⟩ rfl (by repeat' (first | exact True.intro | refine And.intro ?_ ?_ | (show 0 + _ ≤ List.length _; simp) | refine zkH ?_)) rfl (zaX kq hkq ?_ ?_ ?_))
 all_goals repeat' (first | exact zfk.nil | refine zfk.sl ?_ (by simp <;> omega) | exact zK.map (by assumption) | exact zK.map (f := eI) (fun _ _ => trivial) | exact zK.nil | refine zK.cons ?_ ?_ | refine zK.app ?_ ?_ | refine zK.take ?_ | refine zK.drop ?_ | refine zK.rep ?_ | exact zdA.mk (by assumption) zhA.refl | exact zbG | exact zai | refine zaP ?_ | refine zfS (n := 1000) ?_ | refine zc7 ?_ | refine zc8 ?_)
theorem c_odd111 (t : List Int) (k : Nat) (ht : t.length ≤ 400) (hk : k ≤ t.length) (p0 : Pair) (prs : List Pair) (c0 : Count) (cts : List Count) (l0 : List Opt) (cls : List (List Opt)) (ru : Int) (q1 : ∀ l ∈ (l0 :: cls : List (List Opt)), zqc l) (q3 : ∀ c ∈ (c0 :: cts : List Count), zqb c) (h1 : (l0 :: cls : List (List Opt)).length ≤ 5) (h2 : (p0 :: prs : List Pair).length ≤ 200) (h3 : (c0 :: cts : List Count).length ≤ 6) (h4 : ∀ p ∈ (p0 :: prs : List Pair), p.table.length ≤ 100) :
  qf Tryz.prog 33 [.ptr 0 2 0 0, ag (Model.cells ⟨l0 :: cls, p0 :: prs, c0 :: cts, ru⟩)] [qd t k] (fun r H' => ∃ (y : Model) (k' : Nat), k' ≤ t.length ∧ LaidX y ∧ Leq r (ag y.cells) ∧ H' = [qd t k']) := by
 have q2 : ∀ p ∈ (p0 :: prs : List Pair), YY p := fun _ _ => trivial
 have h5 := h4 p0 (by simp)
 obtain ⟨q2a, q2b⟩ := List.forall_mem_cons.1 q2
 simp only [List.length_cons] at h2
 obtain ⟨q3a, q3b⟩ := List.forall_mem_cons.1 q3
 simp only [List.length_cons] at h3
 obtain ⟨q1a, q1b⟩ := List.forall_mem_cons.1 q1
 simp only [List.length_cons] at h1
 dsimp only [Model.cells]
 refine zh tok mixed 126 rfl (fn := Tryz.f33) (c := Tryz.f33.body.getD .skip) (by kernel_rfl) (by kernel_rfl) (by kernel_rfl) rfl 1 rfl ?_
 repeat' (first | ((refine retL rfl rfl rfl ?_ rfl rfl rfl ?_; · repeat' (first | exact True.intro | refine And.intro ?_ ?_ | (show 0 + _ ≤ List.length _; simp) | refine zkH ?_))) | ((refine ret0 rfl rfl rfl ?_ rfl rfl rfl ?_; · repeat' (first | exact True.intro | refine And.intro ?_ ?_ | (show 0 + _ ≤ List.length _; simp) | refine zkH ?_))) | refine o1 ?_ | refine o2 ?_ | refine k1 ?_ | refine k2 ?_ | refine k3 ?_ | refine k4 ?_ | refine k7 ?_ | refine And.intro ?_ ?_ | refine o3 ?_ | refine o4 ?_ | (intro h; first | exact Bool.noConfusion h | exact nz _ h | exact nl h | (simp at h; done) | (simp at h; first | (exfalso; omega) | skip) | skip) | (refine (?_ : z8 _ = zb _); rfl) | exact Nat.le_of_ble_eq_true rfl | exact (by kernel_rfl : zn _ _ = true) | refine zL ?_ | refine zc (by omega) (by omega) ?_ | (refine (?_ : _ ≤ 140737488355328); simp [zb] <;> omega) | (refine (?_ : _ ≤ 9223372036854775807); simp [zb] <;> omega) | (refine (?_ : _ = zb _); simp [zb] <;> omega) | refine qp _ (by first | rfl | assumption) (by first | assumption | omega) ?_ | (change zp _ _ _ _ _; refine qi 0 rfl (by assumption) (by assumption) (by omega) (by omega) ?_; intro v kq hv1 hv2 hkq) | (change zI _ _ _ _ _; refine qN 0 rfl (by assumption) (by assumption) (by omega) (by omega) ?_; intro v kq hv1 hv2 hkq) | (refine zaF ?_) | (refine zcp ?_) | (refine zdK ?_) | (refine zjj ?_) | (refine set0p ?_) | (refine set0m ?_) | (refine zev ?_) | (refine zdl (by assumption) (by assumption) (fun kx hkx => ?_)) | (refine zaT rfl (by assumption) ?_ ?_ ?_ ?_) | (refine ⟨(24 + v).toNat, (24 + v).toNat, by omega, by omega, Nat.le_refl _, ?_⟩) | ((refine (?_ : Int.toNat _ * _ ≤ _); omega)) | (refine (zcG ?_ : eqv (List.replicate _ _) _)) | fail)
 all_goals try (refine zbH [0] [qd t kq] rfl rfl ⟨rfl, trivial⟩ rfl (by repeat' (first | exact True.intro | refine And.intro ?_ ?_ | (show 0 + _ ≤ List.length _; simp))) rfl (zaX kq hkq ?_ ?_ ?_))
 all_goals repeat' (first | exact zfk.nil | refine zfk.sl ?_ (by simp <;> omega) | exact zK.map (by assumption) | exact zK.map (f := eI) (fun _ _ => trivial) | exact zK.nil | refine zK.cons ?_ ?_ | refine zK.app ?_ ?_ | refine zK.take ?_ | refine zK.drop ?_ | refine zK.rep ?_ | exact zdA.mk (by assumption) zhA.refl | exact zbG | exact zai | refine zaP ?_ | refine zfS (n := 1000) ?_ | refine zc7 ?_ | refine zc8 ?_)
end Go.Proofs.YtihpjcmloecaaaaGreat.Cw
namespace Go.Proofs.YtihpjcmloecaaaaGreat.Cw
open Go.Cw Go.Proofs
set_option linter.unusedVariables false
set_option maxRecDepth 100000
theorem zlF (t : List Int) (k : Nat) (ht : t.length ≤ 400) (hk : k ≤ t.length) (m : Model) (q1 : ∀ l ∈ m.classes, zqc l) (q3 : ∀ c ∈ m.counts, zqb c) (h1 : m.classes.length ≤ 5) (h2 : m.pairs.length ≤ 200) (h3 : m.counts.length ≤ 6) (h4 : ∀ p ∈ m.pairs, p.table.length ≤ 100) :
  qf Tryz.prog 33 [.ptr 0 2 0 0, ag m.cells] [qd t k] (fun r H' => ∃ (y : Model) (k' : Nat), k' ≤ t.length ∧ LaidX y ∧ Leq r (ag y.cells) ∧ H' = [qd t k']) := by
 obtain ⟨cls, prs, cts, ru⟩ := m
 rcases prs with _ | ⟨p0, prs⟩ <;> rcases cts with _ | ⟨c0, cts⟩ <;> rcases cls with _ | ⟨l0, cls⟩
 · exact c_odd000 t k ht hk ru q1 q3 h1 h2 h3 h4
 · exact c_odd001 t k ht hk l0 cls ru q1 q3 h1 h2 h3 h4
 · exact c_odd010 t k ht hk c0 cts ru q1 q3 h1 h2 h3 h4
 · exact c_odd011 t k ht hk c0 cts l0 cls ru q1 q3 h1 h2 h3 h4
 · exact c_odd100 t k ht hk p0 prs ru q1 q3 h1 h2 h3 h4
 · exact c_odd101 t k ht hk p0 prs l0 cls ru q1 q3 h1 h2 h3 h4
 · exact c_odd110 t k ht hk p0 prs c0 cts ru q1 q3 h1 h2 h3 h4
 · exact c_odd111 t k ht hk p0 prs c0 cts l0 cls ru q1 q3 h1 h2 h3 h4
end Go.Proofs.YtihpjcmloecaaaaGreat.Cw
namespace Go.Proofs.YtihpjcmloecaaaaGreat.Cw
open Go Go.Cw Go.Proofs
set_option linter.unusedVariables false
set_option maxRecDepth 100000
set_option maxHeartbeats 8000000
theorem zpC (t : List Int) (k : Nat) (ht : t.length ≤ 400) (hk : k ≤ t.length) (m : Model) (hm : EvM m) :
  qf Tryz.prog 33 [.ptr 0 2 0 0, ag m.cells] [qd t k] (fun r H' => ∃ (y : Model) (k' : Nat), k' ≤ t.length ∧ LaidX y ∧ r = ag y.cells ∧ H' = [qd t k']) :=
 (zlF t k ht hk m (fun l hl => ⟨by have := (hm.cls l hl).le; omega, hm.laid.ch l hl⟩) hm.laid.ld hm.few hm.prs hm.cts hm.tabs).weak fun r H' ⟨y, k', g1, g2, g3, g4⟩ => ⟨_, g3.le, y, k', g1, g2, rfl, g4⟩
theorem c_model (t : List Int) (k : Nat) (ht : t.length ≤ 400) (hk : k ≤ t.length) :
  qf Tryz.prog 11 [.ptr 0 2 0 0] [qd t k] (fun r H' => ∃ (m : Model) (k' : Nat), k' ≤ t.length ∧ LaidX m ∧ r = ag m.cells ∧ H' = [qd t k']) := by
 refine zh tok mixed 20 rfl (fn := Tryz.f11) (c := Tryz.f11.body.getD .skip) (by kernel_rfl) (by kernel_rfl) (by kernel_rfl) rfl 1 rfl ?_
 repeat' (first | ((change zp _ _ _ _ _; refine qX (i := 0) rfl (fun _ _ => rfl) [.ptr 0 2 0 0, zg .i64 3, zg .i64 4] rfl (c_dmodel t kq ht hkq 3 4 ⟨by omega, by omega⟩ ⟨by omega, by omega⟩) ?_; rintro r H' ⟨m, ky, c1, c2, rfl, rfl⟩; refine ⟨_, rfl, fun _ _ => rfl, fun _ _ => rfl, ?_⟩)) | ((change zp _ _ _ _ _; refine qX (i := 0) rfl (fun _ _ => rfl) [.ptr 0 2 0 0, zg .i64 3, zg .i64 2] rfl (c_even t kq ht hkq 3 2 (by omega) (by omega) (by omega)) ?_; rintro r H' ⟨m, ky, c1, c2, rfl, rfl⟩; refine ⟨_, rfl, fun _ _ => rfl, fun _ _ => rfl, ?_⟩)) | ((change zp _ _ _ _ _; refine qX (i := 0) rfl (fun _ _ => rfl) [.ptr 0 2 0 0, ag m.cells] rfl (zpC t ky ht c1 m c2) ?_; rintro r H' ⟨y, kz, d1, d2, rfl, rfl⟩; refine ⟨_, rfl, fun _ _ => rfl, fun _ _ => rfl, ?_⟩)) | refine o1 ?_ | refine o2 ?_ | refine k1 ?_ | refine k2 ?_ | refine k3 ?_ | refine k4 ?_ | refine k6 ?_ | refine k7 ?_ | refine And.intro ?_ ?_ | (intro h; first | exact Bool.noConfusion h | exact nz _ h | exact nl h | (simp at h; done) | (simp at h; first | (exfalso; omega) | skip) | skip) | exact (by kernel_rfl : zn _ _ = true) | refine zc (by omega) (by omega) ?_ | (change zp _ _ _ _ _; refine qi 0 rfl (by assumption) (by assumption) (by omega) (by omega) ?_; intro v kq hv1 hv2 hkq) | fail)
 · exact qC [0] [qd t ky] rfl rfl ⟨rfl, trivial⟩ (r' := ag m.cells) rfl ⟨m, ky, c1, ⟨c2.laid, by have := c2.few; omega, fun l hl => by have := (c2.some_ l hl).2; omega⟩, rfl, rfl⟩
 · exact qC [0] [qd t kz] rfl rfl ⟨rfl, trivial⟩ (r' := ag y.cells) rfl ⟨y, kz, d1, d2, rfl, rfl⟩
 obtain ⟨R, hR⟩ : ∃ R : Nat, 2 + v = (R : Int) := ⟨(2 + v).toNat, by omega⟩
 rw [hR]
 change zp _ _ _ _ _
 refine qX (i := 0) rfl (fun _ _ => rfl) [.ptr 0 2 0 0, zg .i64 4, zg .i64 R] rfl (c_even t kq ht (by assumption) 4 R (by omega) (by omega) (by omega)) ?_
 rintro r H' ⟨m, ky, c1, c2, rfl, rfl⟩
 refine ⟨_, rfl, fun _ _ => rfl, fun _ _ => rfl, ?_⟩
 repeat' (first | refine o1 ?_ | refine o2 ?_ | refine k7 ?_ | fail)
 exact qC [0] [qd t ky] rfl rfl ⟨rfl, trivial⟩ (r' := ag m.cells) rfl ⟨m, ky, c1, ⟨c2.laid, by have := c2.few; omega, fun l hl => by have := (c2.cls l hl).le; omega⟩, rfl, rfl⟩
end Go.Proofs.YtihpjcmloecaaaaGreat.Cw
namespace Go.Proofs.YtihpjcmloecaaaaGreat.Cw
open Go Go.Cw Go.Proofs
set_option linter.unusedVariables false
set_option maxRecDepth 100000
set_option maxHeartbeats 8000000
theorem znL {t : List Int} {k : Nat} {H : zt} {K : AV → zt → Prop} (i : Nat) (hi : H[i]? = some (qd t k)) (ht : t.length ≤ 400) (hk : k ≤ t.length)
  (hK : ∀ (m : Model) kc, kc ≤ t.length → LaidX m → K (ag m.cells) (H.set i (qd t kc))) : zp Tryz.prog 11 [.ptr i 2 0 0] H K := by
 refine qX (i := i) hi (fun _ _ => rfl) [.ptr 0 2 0 0] rfl (c_model t k ht hk) ?_
 rintro r H' ⟨m, k', h1, h2, rfl, rfl⟩
 exact ⟨_, rfl, fun _ _ => rfl, fun _ _ => rfl, hK m k' h1 h2⟩
def abRow (p : Int × Int) : List PV := [ei p.1, ei p.2]
end Go.Proofs.YtihpjcmloecaaaaGreat.Cw
namespace Go.Proofs.YtihpjcmloecaaaaGreat.Cw
open Go.Cw Go.Proofs
set_option linter.unusedVariables false
set_option maxRecDepth 100000
theorem in_int {qs : List PV} (h : PTy T 3 qs) : ∃ n : Int, qs = [ei n] ∧ -9223372036854775808 ≤ n ∧ n ≤ 9223372036854775807 := kd_int (by kernel_rfl) h
theorem in_ints {qs : List PV} (h : PTy T 22 qs) : ∃ l : List Int, qs = [qV l] := by
 obtain ⟨l, h, _⟩ := kd_slice (fun s => [ei s]) (fun _ => True) (e := 3) (z := 1) (by kernel_rfl) (fun r hr => by obtain ⟨s, h, _⟩ := in_int hr; exact ⟨s, h, trivial⟩) h
 exact ⟨l, h⟩
theorem args_ints {ts : List TypeId} {al : List AV} (h : zhj T (22 :: ts) al) : ∃ (l : List Int) (al' : _), al = .pv (qV l) :: al' ∧ zhj T ts al' := by
 obtain ⟨q, al', rfl, h1, h2⟩ := args_one (by kernel_rfl) h
 obtain ⟨l, h⟩ := in_ints h1
 injection h with h; subst h
 exact ⟨l, al', rfl, h2⟩
end Go.Proofs.YtihpjcmloecaaaaGreat.Cw
namespace Go.Proofs.YtihpjcmloecaaaaGreat.Cw
open Go Go.Cw Go.Proofs
set_option linter.unusedVariables false
set_option maxRecDepth 100000
set_option maxHeartbeats 8000000
def awO (r : Int) : Opt := ⟨⟨⟨0, 0, 0, 0⟩, r⟩, []⟩
def awL : List Opt := [awO 0, awO 1]
def awM : Model := ⟨[awL], [], [], 0⟩
theorem aw_pl (r s : Int) (h : r ≠ s) : ¬ (awO r).place = (awO s).place := fun e => h (congrArg Placed.room e)
theorem aw_at00 : qD awL (awO 0).place 0 = true := zaJ rfl rfl
theorem aw_at01 : qD awL (awO 0).place 1 = false := zfT rfl (aw_pl 1 0 (by decide))
theorem zp0 : qD awL (awO 1).place 0 = false := zfT rfl (aw_pl 0 1 (by decide))
theorem aw_at11 : qD awL (awO 1).place 1 = true := zaJ rfl rfl
theorem aw_s0 : qk awL (awO 0).place 2 = [0] := by
 unfold qk; rw [show List.range 2 = [0, 1] from rfl, List.filter_cons, aw_at00, if_pos rfl, List.filter_cons, aw_at01]; rfl
theorem aw_s1 : qk awL (awO 1).place 2 = [1] := by
 unfold qk; rw [show List.range 2 = [0, 1] from rfl, List.filter_cons, zp0, List.filter_cons, aw_at11]; rfl
theorem aw_s11 : qk awL (awO 1).place 1 = [] := by
 unfold qk; rw [show List.range 1 = [0] from rfl, List.filter_cons, zp0]; rfl
theorem aw_i01 : za3 awL 0 1 = some 1 := by
 show (qk awL (awO 1).place 2)[(qk awL (awO 0).place 0).length]? = _
 rw [aw_s1]; rfl
theorem aw_i10 : za3 awL 1 0 = some 0 := by
 show (qk awL (awO 0).place 2)[(qk awL (awO 1).place 1).length]? = _
 rw [aw_s0, aw_s11]; rfl
theorem aw_i11 : za3 awL 1 1 = some 1 := by
 show (qk awL (awO 1).place 2)[(qk awL (awO 1).place 1).length]? = _
 rw [aw_s1, aw_s11]; rfl
theorem aw_w0 : zc3 awL 0 1 0 = some 1 := aw_i01
theorem aw_w1 : zc3 awL 0 1 1 = some 0 := aw_i10
theorem aw_imgs : xC awL 0 1 2 = [1, 0] := by
 unfold xC; rw [show List.range 2 = [0, 1] from rfl, List.filterMap_cons_some aw_w0, List.filterMap_cons_some aw_w1]; rfl
theorem aw_ok : qx awM = 0 := by
 refine mE0 ⟨by decide, fun l h => ?_, by decide, by decide, by decide, by decide⟩ ⟨fun l h o ho => ?_, fun i h => absurd h (Nat.not_lt_zero _), fun c h => absurd h List.not_mem_nil⟩
 · obtain rfl := List.mem_singleton.1 h; decide
 · obtain rfl := List.mem_singleton.1 h
   simp only [awL, List.mem_cons, List.not_mem_nil, or_false] at ho
   rcases ho with rfl | rfl <;> exact fun i h => absurd h (Nat.not_lt_zero _)
theorem zlP : Laid awM := ⟨by decide, by decide, fun l h o ho => by
 obtain rfl := List.mem_singleton.1 h
 simp only [awL, List.mem_cons, List.not_mem_nil, or_false] at ho
 rcases ho with rfl | rfl <;> decide, fun c h => absurd h List.not_mem_nil⟩
theorem aw_sw : zbz awM 0 1 := by
 refine ⟨fun l h i hi => ?_, fun p h => absurd h List.not_mem_nil, rfl⟩
 obtain rfl := List.mem_singleton.1 h
 match i, hi with
 | 0, _ => exact ⟨1, awO 0, awO 1, aw_w0, rfl, rfl, rfl⟩
 | 1, _ => exact ⟨0, awO 1, awO 0, aw_w1, rfl, rfl, rfl⟩
theorem aw_ex : exP awM 0 1 := ⟨aw_ok, by decide, by decide, by decide, aw_sw⟩
theorem aw_exV : exV awM 0 1 = [[1, 0]] := by
 unfold exV
 rw [if_pos (zaS aw_ex)]
 show [xC awL 0 1 2] = _
 rw [aw_imgs]
theorem aw_rooms : zS awM = [0, 1] := by
 show qW (zbS [0, 1]) = [0, 1]
 rw [show zbS [0, 1] = [0, 1] from List.mergeSort_of_pairwise (by decide)]
 decide
theorem zpY : xr awM = [[0, 1]] := by
 unfold xr
 rw [if_pos aw_ok, aw_rooms]
 show (if [(1 : Int)].filter (swB awM 0) = [] then [] else [(0 : Int) :: [1].filter (swB awM 0)]) ++ zao awM 1 ([1].filter fun b => !swB awM 0 b) = _
 have h : swB awM 0 1 = true := zaS aw_sw
 rw [List.filter_cons, h, if_pos rfl, List.filter_cons, h]
 rfl
theorem aw_plan : zgT awM [1] := ⟨rfl, fun j hj o l ho hl => by
 have hj : j < 1 := hj
 obtain rfl : j = 0 := by omega
 cases ho; cases hl; decide⟩
theorem zpZ : znK awM [1] = 0 := by unfold znK; rw [if_pos aw_ok, zaS aw_plan]; rfl
theorem aw_setF : zhL [[0, 1]] 1 = [0, 1] := by
 unfold zhL
 rw [List.find?_cons, show pB ((1 : Int) ∈ [(0 : Int), 1]) = true from zaS (by decide)]; rfl
theorem aw_canR : znZ awM [1] = [0] := by
 unfold znZ
 rw [if_pos zpZ]
 unfold canV
 rw [zpY]
 show (zf5 awM [1] [[0, 1]] (0 + 1)).1 = _
 rw [zha (o := 1) (l := awL) rfl rfl, if_neg (by decide)]
 show (zbZ [[0, 1]] awL 1 1 0 ([1], [])).1 = _
 unfold zbZ
 show ([1].set 0 ((zhL [[0, 1]] 1).foldl (zaR [] fun t => zfI (za3 awL 1 t)) (-1, 1)).2) = [0]
 rw [aw_setF]
 have e1 : zaR [] (fun t => zfI (za3 awL 1 t)) (-1, 1) 0 = (0, 0) := by
  rw [zjQ rfl (.inl (by decide))]; show (0, zfI (za3 awL 1 0)) = _; rw [aw_i10]; rfl
 have e2 : zaR [] (fun t => zfI (za3 awL 1 t)) (0, 0) 1 = (0, 0) := by
  rw [zhQ rfl]
  show ¬ ((0 : Int) < 0 ∨ zfI (za3 awL 1 1) < 0)
  rw [aw_i11]; decide
 rw [List.foldl_cons, e1, List.foldl_cons, e2]; rfl
theorem awake_ok : zH Tryz.prog 10 [] (fun r => r = zo true) := by
 have hS := c_Swap awM 0 1 zlP
 have hR := zlM awM zlP
 have hC := c_canon awM [1] zlP
 rw [aw_exV, zaS aw_ex] at hS
 rw [zpY] at hR
 rw [zpZ, aw_canR] at hC
 refine zh tok mixed 66 rfl (fn := Tryz.f10) (c := Tryz.f10.body.getD .skip) (by kernel_rfl) (by kernel_rfl) (by kernel_rfl) rfl 0 rfl ?_
 repeat' (first | (refine zcE (a := .region 1 _ _) (fun _ => [(1, .ptr 0 4 0 0)]) (fun _ : Unit => [mdlO awM]) (fun _ => True) ?_) | refine o1 ?_ | refine o2 ?_ | refine k1 ?_ | refine k2 ?_ | refine And.intro ?_ ?_ | exact (by kernel_rfl : zn _ _ = true) | fail)
 · refine ⟨(), trivial, zD.trans (zD.pure0 (i := 1) (xs := []) (r0 := [.ms 0 6 0 2]) rfl rfl rfl ?_ rfl rfl rfl) (zD.trans (zD.shut (i := 2) (c := 0) (x := .ms 1 1 0 1) (y' := .pv (.sl 1 (awM.classes.map zA))) rfl rfl rfl ?_ (show ¬ (2 ∈ ([1] : List Nat)) by decide) (ALe.pv ?_)) (zD.trans (zD.shut (i := 2) (c := 1) (x := .pv (.val (.slice none 0 0))) rfl rfl rfl (by repeat' (first | trivial)) (show ¬ (2 ∈ ([] : List Nat)) by decide) (ALe.pv (PLe.nil (z := 4)))) (zD.trans (zD.shut (i := 2) (c := 2) (x := .pv (.val (.slice none 0 0))) rfl rfl rfl (by repeat' (first | trivial)) (show ¬ (2 ∈ ([] : List Nat)) by decide) (ALe.pv (PLe.nil (z := 4)))) (zJ [2] rfl rfl ⟨rfl, trivial⟩ (by repeat' (first | exact trivial | exact rfl | refine And.intro ?_ ?_))))))⟩
   · repeat' (first | exact True.intro | refine And.intro ?_ ?_ | (show 0 + _ ≤ List.length _; decide))
   · exact Nat.le_refl _
   · exact PLe.sl ⟨⟨PLe.sl ⟨⟨PLe.refl, PLe.refl, PLe.refl, PLe.refl, PLe.refl, PLe.nil, trivial⟩, ⟨PLe.refl, PLe.refl, PLe.refl, PLe.refl, PLe.refl, PLe.nil, trivial⟩, trivial⟩, trivial⟩, trivial⟩
 refine ⟨?_⟩
 intro _ _
 dsimp only [mdlO]
 repeat' (first | ((change zp _ _ _ _ _; refine qw rfl (by repeat' (first | trivial | refine And.intro ?_ ?_ | (show 0 + _ ≤ List.length _; simp))) zW.refl hS ?_; rintro _ rfl)) | ((change zp _ _ _ _ _; refine qw rfl (by repeat' (first | trivial | refine And.intro ?_ ?_ | (show 0 + _ ≤ List.length _; simp))) zW.refl hC ?_; rintro _ rfl)) | ((change zp _ _ _ _ _; refine qw rfl (by repeat' (first | trivial | refine And.intro ?_ ?_ | (show 0 + _ ≤ List.length _; simp))) zW.refl hR ?_; rintro _ rfl)) | (refine ⟨0, _, rfl, rfl, ?_⟩) | refine o1 ?_ | refine o2 ?_ | refine k1 ?_ | refine k2 ?_ | refine k7 ?_ | refine And.intro ?_ ?_ | (intro h; first | exact Bool.noConfusion h | exact nz _ h | exact nl h | (simp at h; done) | (simp at h; first | (exfalso; omega) | skip) | skip) | (change zx _ _ _ _; refine zd rfl trivial ?_) | refine za ?_ | fail)
 all_goals exact rfl
end Go.Proofs.YtihpjcmloecaaaaGreat.Cw
