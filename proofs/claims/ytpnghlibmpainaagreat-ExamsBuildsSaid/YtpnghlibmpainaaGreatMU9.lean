/-
  Part 9 of the proof (D3, D5): what later parts use. No conditions.
-/
import Derived.Test.YtpnghlibmpainaaGreatMU8

/-
  Made examinations.
-/
namespace Go.Proofs.YtpnghlibmpainaaGreat.Cw
open Go.Cw Go.Proofs
set_option linter.unusedVariables false
set_option maxRecDepth 100000
set_option maxHeartbeats 1600000

def z0 : AV := vint .i64 0
def rm0 (r : List PV) : Prop := ∃ c b s, r = [es c, es b, ei s, .val (.slice none 0 0), .val (.slice none 0 0)]
def zeroX : Option AObj := some ⟨33, 8, false, .box [nilA, nilA, nilA, z0, z0, z0, z0, z0]⟩

def roomR (r : List PV) : Prop := ∃ x : Room, PLeL r x.row
theorem rm0.room {r : List PV} (h : rm0 r) : roomR r := by
  obtain ⟨c, b, s, rfl⟩ := h
  exact ⟨⟨c, b, s, [], []⟩, PLe.refl, PLe.refl, PLe.refl, PLe.nil, PLe.nil, trivial⟩
theorem rooms_ex : ∀ {rs : List (List PV)}, (∀ r ∈ rs, roomR r) → ∃ l : List Room, PLeLL rs (l.map Room.row) ∧ l.length = rs.length
  | [], _ => ⟨[], trivial, rfl⟩
  | r :: rs, h => by
    obtain ⟨x, hx⟩ := h r (by simp)
    obtain ⟨l, hl, hn⟩ := rooms_ex (rs := rs) fun q hq => h q (by simp [hq])
    exact ⟨x :: l, ⟨hx, hl⟩, by simp [hn]⟩
theorem rooms_le {r : List PV} {rs : List (List PV)} (h : roomR r) (hs : ∀ q ∈ rs, rm0 q) : ∃ l : List Room, l.length = rs.length + 1 ∧ ALe (.pv (.sl 5 (List.take (rs.length + 1) (List.drop 0 (r :: rs))))) (.pv (encRooms l)) := by
  obtain ⟨l, hl, hn⟩ := rooms_ex (rs := r :: rs) fun q hq => by
    rcases List.mem_cons.1 hq with rfl | hq
    · exact h
    · exact (hs q hq).room
  refine ⟨l, hn, ALe.pv (PLe.sl ?_)⟩
  rw [List.drop_zero, List.take_of_length_le (by simp)]
  exact hl

def sitR (r : List PV) : Prop := ∃ x : Sitting, r = x.row
theorem sits_ex : ∀ {rs : List (List PV)}, (∀ r ∈ rs, sitR r) → ∃ l : List Sitting, rs = l.map Sitting.row
  | [], _ => ⟨[], rfl⟩
  | r :: rs, h => by
    obtain ⟨x, hx⟩ := h r (by simp)
    obtain ⟨l, hl⟩ := sits_ex (rs := rs) fun q hq => h q (by simp [hq])
    exact ⟨x :: l, by rw [hx, hl]; rfl⟩
theorem mem_app {α : Type} {l : List α} {q x : α} (h : q ∈ l ++ [x]) : q ∈ l ∨ q = x := by simpa using h
theorem c_made (t : List Int) (k : Nat) (ht : t.length ≤ 400) (hk : k ≤ t.length) :
    ACall Tryz.prog 24 [.ptr 0 2 0 0] [dice t k] (fun r H' => ∃ (x : Exams) (k' : Nat), k' ≤ t.length ∧ (x.rooms.length ≤ 5 ∧ x.exams.length ≤ 5 ∧ x.sits.length ≤ 5) ∧ r = ag x.cells ∧ H' = [dice t k']) := by
  refine acall_of tok mixed 160 rfl (fn := Tryz.f24) (c := Tryz.f24.body.getD .skip) (by kernel_rfl) (by kernel_rfl) (by kernel_rfl) rfl 1 rfl ?_
  repeat' (first | refine o1 ?_ | refine o2 ?_ | refine k1 ?_ | refine k2 ?_ | refine k4 ?_ | refine And.intro ?_ ?_ | exact (by kernel_rfl : drawOk _ _ = true) | refine eqv_wrap (by omega) (by omega) ?_ | (change vcFun _ _ _ _ _; refine call_next 0 rfl (by assumption) (by assumption) (by omega) (by omega) ?_; intro v kq hv1 hv2 hkq) | fail)
  refine loop_in (fun x : Nat × Nat × List (List PV) => [(4, vint .i64 x.1)]) (fun x => [dice t x.2.1, zeroX, some ⟨33, 8, false, .box [slP 3 5 x.2.2, nilA, nilA, z0, z0, z0, z0, z0]⟩, obP 72 5 x.2.2])
    (fun x => (x.1 + x.2.2.length ≤ 5 ∧ 1 ≤ x.1 + x.2.2.length) ∧ x.2.1 ≤ t.length ∧ ∀ r ∈ x.2.2, rm0 r) (fun x => x.1) ((1 + v).toNat, kq, []) ⟨by simp; omega, hkq, by simp⟩ ⟨?_, ?_⟩
  · exact back [0, 1, 2, 3] rfl rfl ⟨rfl, rfl, rfl, trivial⟩ ⟨slot_eq rfl (congrArg (vint .i64) (by show _ = (((1 + v).toNat : Nat) : Int); omega)), by repeat' (first | exact trivial | exact rfl | refine And.intro ?_ ?_)⟩
  rintro ⟨n, k, rs⟩ ⟨c1, c2, c3⟩
  rcases rs with _ | ⟨r, rs⟩
  · dsimp only [slP, obP, zeroX, nilA, z0, List.length_cons, List.length_nil] at c1 c2 c3 ⊢
    repeat' (first | (refine bytes_one (by omega) (by omega) rfl (fun s hs => ?_)) | ((show Nat.le (ByteArray.size _ + ByteArray.size _) _; rw [hs]; exact Nat.le_of_ble_eq_true rfl)) | refine o1 ?_ | refine o2 ?_ | refine k1 ?_ | refine k2 ?_ | refine k3 ?_ | refine k4 ?_ | refine k6 ?_ | refine And.intro ?_ ?_ | refine o3 ?_ | refine o4 ?_ | (intro h; first | exact Bool.noConfusion h | exact nz _ h | exact nl h | (simp at h; done) | (simp at h; first | (exfalso; omega) | skip) | skip) | (refine (?_ : srcLen _ = rowsLen _); rfl) | exact Nat.le_of_ble_eq_true rfl | exact (by kernel_rfl : drawOk _ _ = true) | refine eqv_wrap (by omega) (by omega) ?_ | refine eqv_u8 (by omega) (by omega) ?_ | refine eqv_to _ (app_first rfl) (eqv_to 1 rfl ?_) | (change vcFunD _ _ _ _ _; refine callD_next 0 rfl (by assumption) (by assumption) (by omega) (by omega) ?_; intro v kq hv1 hv2 hkq) | fail)
    all_goals first
      | (exfalso; omega)
      | exact ⟨(n - 1, kq, [_]), ⟨⟨by show n - 1 + 1 ≤ 5; omega, by show 1 ≤ n - 1 + 1; omega⟩, hkq, fun r hr => by rw [List.mem_singleton] at hr; subst hr; exact ⟨_, _, _, rfl⟩⟩, (by show n - 1 < n; omega), back [0, 1, 2, 6] rfl rfl ⟨rfl, rfl, rfl, rfl, trivial⟩ ⟨slot_eq rfl (congrArg (vint .i64) (by show _ = ((n - 1 : Nat) : Int); omega)), by repeat' (first | exact trivial | exact rfl | refine And.intro ?_ ?_)⟩⟩
  · dsimp only [slP, obP, zeroX, nilA, z0, List.length_cons, List.length_nil] at c1 c2 c3 ⊢
    rcases Nat.eq_zero_or_pos n with rfl | hn
    · obtain ⟨c, b, s, rfl⟩ := c3 r (by simp)
      repeat' (first | (refine join_in (a := .seq (.region 6 _ _) _) (fun _ => []) (fun x : Nat × List PV × List (List PV) => [dice t x.1, zeroX, some ⟨33, 8, false, .box [.ms 3 5 0 (x.2.2.length + 1), nilA, nilA, z0, z0, z0, z0, z0]⟩, some ⟨72, 5, false, .p (x.2.1 :: x.2.2)⟩]) (fun x => x.1 ≤ t.length ∧ (∃ c b s cl ts, x.2.1 = [es c, es b, ei s, .val (.slice none 0 0), cl] ∧ PLe cl (encTimes ts)) ∧ (∀ r ∈ x.2.2, rm0 r) ∧ x.2.2.length ≤ 4) ?_) | (refine ⟨0, rfl, Nat.succ_pos _, eqv_to 0 rfl ?_⟩) | (refine ⟨_, rfl, Nat.le_of_ble_eq_true rfl, eqv_rfl ?_⟩) | refine o1 ?_ | refine o2 ?_ | refine k1 ?_ | refine k2 ?_ | refine k3 ?_ | refine k6 ?_ | refine k8 ?_ | refine And.intro ?_ ?_ | refine o3 ?_ | refine o4 ?_ | (intro h; first | exact Bool.noConfusion h | exact nz _ h | exact nl h | (simp at h; done) | (simp at h; first | (exfalso; omega) | skip) | skip) | exact (by kernel_rfl : drawOk _ _ = true) | refine eqv_wrap (by omega) (by omega) ?_ | (change vcFun _ _ _ _ _; refine call_one2 0 rfl (by assumption) (by assumption) (by omega) (by omega) ?_; intro bq kq hkq) | (change vcFunD _ _ _ _ _; refine callD_next 0 rfl (by assumption) (by assumption) (by omega) (by omega) ?_; intro v kq hv1 hv2 hkq) | fail)
      all_goals first
        | exact ⟨(kq, [es c, es _, ei s, .val (.slice none 0 0), .val (.slice none 0 0)], rs), ⟨hkq, ⟨_, _, _, _, [], rfl, PLe.nil⟩, (fun r hr => c3 r (List.mem_cons_of_mem _ hr)), (by show rs.length ≤ 4; omega)⟩, back [0, 1, 2, 3] rfl rfl ⟨rfl, rfl, rfl, rfl, trivial⟩ (by repeat' (first | exact trivial | exact rfl | refine And.intro ?_ ?_))⟩
        | skip
      · rename_i w1 q1 a1 a2 a3 w2 q2 b1 b2 b3
        refine ⟨(kq, [es c, es b, ei s, .val (.slice none 0 0), .sl 4 [[ei (1 + w1), ei w2, ei v, ei 1]]], rs), ⟨hkq, ⟨_, _, _, _, [⟨1 + w1, w2, v, 1⟩], rfl, PLe.refl⟩, (fun r hr => c3 r (List.mem_cons_of_mem _ hr)), (by show rs.length ≤ 4; omega)⟩, Ghost.trans (Ghost.shut0 (i := 3) (c := 4) (r := [es c, es b, ei s, .val (.slice none 0 0), .val (.slice none 0 0)]) (xs := rs) (x := .ms 4 4 0 1) rfl rfl (Nat.le_of_ble_eq_true rfl) rfl (by repeat' (first | (show 0 + _ ≤ List.length _; simp))) ?_ ALe.refl) (back [0, 1, 2, 3] rfl rfl ⟨rfl, rfl, rfl, rfl, trivial⟩ (by repeat' (first | exact trivial | exact rfl | refine And.intro ?_ ?_)))⟩
        · show ¬ (3 ∈ ([4] : List Nat))
          decide
      refine ⟨?_⟩
      rintro ⟨k, r, rs⟩ ⟨c2, ⟨c, bl, s, cl, ts, e, hcl⟩, c3, c3n⟩
      dsimp only at c2 c3 c3n e ⊢
      subst e
      have hs1 : ∀ w : List PV, roomR w → ∃ l : List Room, l.length = rs.length + 1 ∧ ALe (.pv (.sl 5 (List.take (rs.length + 1) (List.drop 0 (w :: rs))))) (.pv (encRooms l)) := fun w hw => rooms_le hw c3
      repeat' (first | (refine join_in (a := .seq (.region 8 _ _) _) (fun _ => []) (fun x : Nat × List Room => [dice t x.1, zeroX, some ⟨33, 8, false, .box [.pv (encRooms x.2), nilA, nilA, z0, z0, z0, z0, z0]⟩]) (fun x => x.1 ≤ t.length ∧ x.2.length ≤ 5) ?_) | (refine ⟨0, rfl, Nat.succ_pos _, eqv_to 0 rfl ?_⟩) | (refine ⟨_, rfl, Nat.le_of_ble_eq_true rfl, eqv_rfl ?_⟩) | refine o1 ?_ | refine o2 ?_ | refine k1 ?_ | refine k2 ?_ | refine k3 ?_ | refine k6 ?_ | refine And.intro ?_ ?_ | (intro h; first | exact Bool.noConfusion h | exact nz _ h | exact nl h | (simp at h; done) | (simp at h; first | (exfalso; omega) | skip) | skip) | (change vcFun _ _ _ _ _; refine call_one2 0 rfl (by assumption) (by assumption) (by omega) (by omega) ?_; intro bq kq hkq) | fail)
      · obtain ⟨l, hn, hl⟩ := hs1 [es c, es bl, ei s, .sl 1 [[es _]], cl] ⟨⟨c, bl, s, [_], ts⟩, PLe.refl, PLe.refl, PLe.refl, PLe.refl, hcl, trivial⟩
        refine ⟨(kq, l), ⟨hkq, (by show l.length ≤ 5; omega)⟩, Ghost.trans (Ghost.shut0 (i := 3) (c := 3) (r := [es c, es bl, ei s, .val (.slice none 0 0), cl]) (xs := rs) (x := .ms 4 1 0 1) rfl rfl (Nat.le_of_ble_eq_true rfl) rfl (by repeat' (first | (show 0 + _ ≤ List.length _; simp))) ?_ ALe.refl) (Ghost.trans (Ghost.shut (i := 2) (c := 0) (x := .ms 3 5 0 (rs.length + 1)) rfl rfl rfl (by repeat' (first | (show 0 + _ ≤ List.length _; simp))) ?_ hl) (back [0, 1, 2] rfl rfl ⟨rfl, rfl, rfl, trivial⟩ (by repeat' (first | exact trivial | exact rfl | refine And.intro ?_ ?_))))⟩
        · show ¬ (3 ∈ ([4] : List Nat))
          decide
        · show ¬ (2 ∈ ([3] : List Nat))
          decide
      · obtain ⟨l, hn, hl⟩ := hs1 [es c, es bl, ei s, .val (.slice none 0 0), cl] ⟨⟨c, bl, s, [], ts⟩, PLe.refl, PLe.refl, PLe.refl, PLe.nil, hcl, trivial⟩
        refine ⟨(kq, l), ⟨hkq, (by show l.length ≤ 5; omega)⟩, Ghost.trans (Ghost.shut (i := 2) (c := 0) (x := .ms 3 5 0 (rs.length + 1)) rfl rfl rfl (by repeat' (first | (show 0 + _ ≤ List.length _; simp))) ?_ hl) (back [0, 1, 2] rfl rfl ⟨rfl, rfl, rfl, trivial⟩ (by repeat' (first | exact trivial | exact rfl | refine And.intro ?_ ?_)))⟩
        show ¬ (2 ∈ ([3] : List Nat))
        decide
      refine ⟨?_⟩
      rintro ⟨k, rl⟩ ⟨c2, crl⟩
      dsimp only at c2 crl ⊢
      repeat' (first | (refine join_in (a := .seq (.region 10 _ _) _) (fun _ => []) (fun x : Nat × List Exam => [dice t x.1, zeroX, some ⟨33, 8, false, .box [.pv (encRooms rl), .pv (.sl 4 (x.2.map Exam.row)), nilA, z0, z0, z0, z0, z0]⟩]) (fun x => x.1 ≤ t.length ∧ x.2.length ≤ 5) ?_) | refine o1 ?_ | refine o2 ?_ | refine k1 ?_ | refine k2 ?_ | refine k4 ?_ | refine And.intro ?_ ?_ | (change vcFun _ _ _ _ _; refine call_next 0 rfl (by assumption) (by assumption) (by omega) (by omega) ?_; intro v kq hv1 hv2 hkq) | fail)
      · refine loop_in (fun x : Nat × Nat × List Exam => [(5, vint .i64 x.1)]) (fun x => [dice t x.2.1, zeroX, some ⟨33, 8, false, .box [.pv (encRooms rl), slP 3 4 (x.2.2.map Exam.row), nilA, z0, z0, z0, z0, z0]⟩, obP 69 4 (x.2.2.map Exam.row)])
          (fun x => x.1 + x.2.2.length ≤ 5 ∧ x.2.1 ≤ t.length) (fun x => x.1) (v.toNat, kq, []) ⟨by simp; omega, hkq⟩ ⟨?_, ?_⟩
        · exact back [0, 1, 2, 3] rfl rfl ⟨rfl, rfl, rfl, trivial⟩ ⟨slot_eq rfl (congrArg (vint .i64) (by show _ = ((v.toNat : Nat) : Int); omega)), by repeat' (first | exact trivial | exact rfl | refine And.intro ?_ ?_)⟩
        rintro ⟨n, k, l⟩ ⟨c1, c2⟩
        rcases l with _ | ⟨e0, l⟩
        · have hlm : (([]).map Exam.row).length = ([]).length := List.length_map ..
          dsimp only [slP, obP, zeroX, nilA, z0, List.length_cons, List.length_nil, List.map] at c1 c2 hlm ⊢
          rcases Nat.eq_zero_or_pos n with rfl | hn
          · repeat' (first | refine o1 ?_ | refine o2 ?_ | refine k1 ?_ | refine k2 ?_ | refine k3 ?_ | refine k8 ?_ | refine And.intro ?_ ?_ | (intro h; first | exact Bool.noConfusion h | exact nz _ h | exact nl h | (simp at h; done) | (simp at h; first | (exfalso; omega) | skip) | skip) | fail)
            first
              | exact ⟨(k, []), ⟨c2, Nat.zero_le _⟩, Ghost.trans (Ghost.shut (i := 2) (c := 1) (x := .pv (.val (.slice none 0 0))) rfl rfl rfl (by repeat' (first | trivial)) (show ¬ (2 ∈ ([] : List Nat)) by decide) (ALe.pv PLe.nil)) (back [0, 1, 2] rfl rfl ⟨rfl, rfl, rfl, trivial⟩ (by repeat' (first | exact trivial | exact rfl | refine And.intro ?_ ?_)))⟩
              | (refine ⟨(k, []), ⟨c2, (by show List.length _ ≤ 5; simp only [List.length_cons]; omega)⟩, Ghost.trans (Ghost.shut (i := 2) (c := 1) (x := .ms 3 4 0 ((List.map Exam.row l).length + 1)) rfl rfl rfl (by skip) (show ¬ (2 ∈ ([3] : List Nat)) by decide) (ALe.pv (PLe.sl (?_ : PLeLL _ (([]).map Exam.row))))) (back [0, 1, 2] rfl rfl ⟨rfl, rfl, rfl, trivial⟩ (by skip))⟩
                 rw [List.drop_zero, List.take_of_length_le (by simp)]
                 exact PLeLL.refl)
          · repeat' (first | (refine bytes_one (by omega) (by omega) rfl (fun s hs => ?_)) | ((show Nat.le (ByteArray.size _ + ByteArray.size _) _; rw [hs]; exact Nat.le_of_ble_eq_true rfl)) | refine o1 ?_ | refine o2 ?_ | refine k1 ?_ | refine k2 ?_ | refine k3 ?_ | refine k4 ?_ | refine k6 ?_ | refine And.intro ?_ ?_ | refine o3 ?_ | refine o4 ?_ | (intro h; first | exact Bool.noConfusion h | exact nz _ h | exact nl h | (simp at h; done) | (simp at h; first | (exfalso; omega) | skip) | skip) | exact (by kernel_rfl : drawOk _ _ = true) | refine eqv_wrap (by omega) (by omega) ?_ | refine eqv_u8 (by omega) (by omega) ?_ | (change vcFunD _ _ _ _ _; refine callD_next 0 rfl (by assumption) (by assumption) (by omega) (by omega) ?_; intro v kq hv1 hv2 hkq) | fail)
            all_goals first
              | (exfalso; omega)
              | skip
            refine loop_in (fun x : Nat × Nat × List Str => [(7, vint .i64 x.1)]) (fun x => [dice t x.2.1, zeroX, some ⟨33, 8, false, .box [.pv (encRooms rl), slP 3 4 (([]).map Exam.row), nilA, z0, z0, z0, z0, z0]⟩, obP 69 4 (([]).map Exam.row), none, some ⟨69, 4, false, .box [.pv (es (ByteArray.mk #[69] ++ s)), vint .i64 (1 + v), nilA, slP 6 1 (x.2.2.map fun w => [es w])]⟩, obP 9 1 (x.2.2.map fun w => [es w])])
              (fun x => (x.1 ≤ 4 ∧ x.2.2.length ≤ x.1) ∧ x.2.1 ≤ t.length) (fun x => 4 - x.1) (0, kq, []) ⟨⟨by simp, by simp⟩, hkq⟩ ⟨?_, ?_⟩
            · exact back [0, 1, 2, 3, 4, 5, 6] rfl rfl (by repeat' (first | exact trivial | exact rfl | refine And.intro ?_ ?_)) (by repeat' (first | exact trivial | exact rfl | refine And.intro ?_ ?_))
            rintro ⟨i, k, ss⟩ ⟨c3, c4⟩
            rcases ss with _ | ⟨w0, ss⟩
            · dsimp only [slP, obP, zeroX, nilA, z0, List.length_cons, List.length_nil, List.map] at c3 c4 ⊢
              rcases Nat.lt_or_ge i 4 with hi | hi
              · repeat' (first | (refine bytes_one (by omega) (by omega) rfl (fun sq hsq => ?_)) | ((show Nat.le (ByteArray.size _ + ByteArray.size _) _; rw [hsq]; exact Nat.le_of_ble_eq_true rfl)) | refine o1 ?_ | refine o2 ?_ | refine k1 ?_ | refine k2 ?_ | refine k3 ?_ | refine k4 ?_ | refine k6 ?_ | refine And.intro ?_ ?_ | (intro h; first | exact Bool.noConfusion h | exact nz _ h | exact nl h | (simp at h; done) | (simp at h; first | (exfalso; omega) | skip) | skip) | (refine (?_ : srcLen _ = rowsLen _); rfl) | exact Nat.le_of_ble_eq_true rfl | refine eqv_wrap (by omega) (by omega) ?_ | refine eqv_u8 (by omega) (by omega) ?_ | refine eqv_to _ (app_first rfl) (eqv_to 1 rfl ?_) | (change vcFun _ _ _ _ _; refine call_one2 0 rfl (by assumption) (by assumption) (by omega) (by omega) ?_; intro bq kq hkq) | fail)
                all_goals first
                  | (exfalso; omega)
                  | skip
                · exact ⟨(i + 1, kq, [ByteArray.mk #[115] ++ sq]), ⟨⟨by show i + 1 ≤ 4; omega, by show List.length _ ≤ i + 1; simp; try omega⟩, hkq⟩, (by show 4 - (i + 1) < 4 - i; omega), back [0, 1, 2, 3, 4, 5, 9] rfl rfl (by repeat' (first | exact trivial | exact rfl | refine And.intro ?_ ?_)) (by repeat' (first | exact trivial | exact rfl | refine And.intro ?_ ?_))⟩
                · exact ⟨(i + 1, kq, []), ⟨⟨by show i + 1 ≤ 4; omega, by show List.length _ ≤ i + 1; simp; try omega⟩, hkq⟩, (by show 4 - (i + 1) < 4 - i; omega), back [0, 1, 2, 3, 4, 5, 6] rfl rfl (by repeat' (first | exact trivial | exact rfl | refine And.intro ?_ ?_)) (by repeat' (first | exact trivial | exact rfl | refine And.intro ?_ ?_))⟩
              · repeat' (first | (refine join_in (a := .seq (.region 19 _ _) _) (fun _ => []) (fun x : Nat × List Str => [dice t x.1, zeroX, some ⟨33, 8, false, .box [.pv (encRooms rl), slP 3 4 (([]).map Exam.row), nilA, z0, z0, z0, z0, z0]⟩, obP 69 4 (([]).map Exam.row), none, some ⟨69, 4, false, .box [.pv (es (ByteArray.mk #[69] ++ s)), vint .i64 (1 + v), nilA, .pv (encStrs x.2)]⟩]) (fun x => x.1 ≤ t.length) ?_) | refine o1 ?_ | refine o2 ?_ | refine k1 ?_ | refine k2 ?_ | refine k3 ?_ | refine k8 ?_ | refine And.intro ?_ ?_ | (intro h; first | exact Bool.noConfusion h | exact nz _ h | exact nl h | (simp at h; done) | (simp at h; first | (exfalso; omega) | skip) | skip) | fail)
                all_goals first
                  | (exfalso; omega)
                  | skip
                · exact ⟨(k, [⟨#[115, 57]⟩]), c4, Ghost.trans (Ghost.shut (i := 5) (c := 3) (x := .ms 7 1 0 1) rfl rfl rfl (by repeat' (first | (show 0 + _ ≤ List.length _; simp))) (show ¬ (5 ∈ ([7] : List Nat)) by decide) ALe.refl) (back [0, 1, 2, 3, 4, 5] rfl rfl (by repeat' (first | exact trivial | exact rfl | refine And.intro ?_ ?_)) (by repeat' (first | exact trivial | exact rfl | refine And.intro ?_ ?_)))⟩
                refine ⟨?_⟩
                rintro ⟨k, us⟩ c5
                dsimp only [slP, obP, zeroX, nilA, z0, List.length_cons, List.length_nil, List.map] at c5 ⊢
                repeat' (first | (refine join_in (a := .seq (.region 21 _ _) _) (fun _ => []) (fun x : Nat × List Str => [dice t x.1, zeroX, some ⟨33, 8, false, .box [.pv (encRooms rl), slP 3 4 (([]).map Exam.row), nilA, z0, z0, z0, z0, z0]⟩, obP 69 4 (([]).map Exam.row), none, some ⟨69, 4, false, .box [.pv (es (ByteArray.mk #[69] ++ s)), vint .i64 (1 + v), .pv (encStrs x.2), .pv (encStrs us)]⟩]) (fun x => x.1 ≤ t.length) ?_) | refine o1 ?_ | refine o2 ?_ | refine k1 ?_ | refine k2 ?_ | refine k3 ?_ | refine k6 ?_ | refine And.intro ?_ ?_ | (intro h; first | exact Bool.noConfusion h | exact nz _ h | exact nl h | (simp at h; done) | (simp at h; first | (exfalso; omega) | skip) | skip) | (change vcFun _ _ _ _ _; refine call_one2 0 rfl (by assumption) (by assumption) (by omega) (by omega) ?_; intro bq kq hkq) | fail)
                · exact ⟨(kq, [⟨#[108, 97, 98]⟩]), hkq, Ghost.trans (Ghost.shut (i := 5) (c := 2) (x := .ms 6 1 0 1) rfl rfl rfl (by repeat' (first | (show 0 + _ ≤ List.length _; simp))) (show ¬ (5 ∈ ([6] : List Nat)) by decide) ALe.refl) (back [0, 1, 2, 3, 4, 5] rfl rfl (by repeat' (first | exact trivial | exact rfl | refine And.intro ?_ ?_)) (by repeat' (first | exact trivial | exact rfl | refine And.intro ?_ ?_)))⟩
                · exact ⟨(kq, []), hkq, Ghost.trans (Ghost.shut (i := 5) (c := 2) (x := .pv (.val (.slice none 0 0))) rfl rfl rfl (by repeat' (first | trivial)) (show ¬ (5 ∈ ([] : List Nat)) by decide) (ALe.pv PLe.nil)) (back [0, 1, 2, 3, 4, 5] rfl rfl (by repeat' (first | exact trivial | exact rfl | refine And.intro ?_ ?_)) (by repeat' (first | exact trivial | exact rfl | refine And.intro ?_ ?_)))⟩
                refine ⟨?_⟩
                rintro ⟨k, fs⟩ c6
                dsimp only [slP, obP, zeroX, nilA, z0, List.length_cons, List.length_nil, List.map] at c6 ⊢
                repeat' (first | refine o1 ?_ | refine o2 ?_ | refine k2 ?_ | refine And.intro ?_ ?_ | (intro h; first | exact Bool.noConfusion h | exact nz _ h | exact nl h | (simp at h; done) | (simp at h; first | (exfalso; omega) | skip) | skip) | (refine (?_ : srcLen _ = rowsLen _); rfl) | exact Nat.le_of_ble_eq_true rfl | refine eqv_wrap (by omega) (by omega) ?_ | refine eqv_to _ (app_first rfl) (eqv_to 1 rfl ?_) | fail)
                all_goals first
                  | (exfalso; omega)
                  | skip
                · exact ⟨(n - 1, k, [⟨ByteArray.mk #[69] ++ s, 1 + v, fs, us⟩]), ⟨by show n - 1 + List.length _ ≤ 5; simp; try omega, c6⟩, (by show n - 1 < n; omega), back [0, 1, 2, 7] rfl rfl (by repeat' (first | exact trivial | exact rfl | refine And.intro ?_ ?_)) ⟨slot_eq rfl (congrArg (vint .i64) (by show _ = ((n - 1 : Nat) : Int); omega)), by repeat' (first | exact trivial | exact rfl | refine And.intro ?_ ?_)⟩⟩
            · dsimp only [slP, obP, zeroX, nilA, z0, List.length_cons, List.length_nil, List.map] at c3 c4 ⊢
              rcases Nat.lt_or_ge i 4 with hi | hi
              · repeat' (first | (refine bytes_one (by omega) (by omega) rfl (fun sq hsq => ?_)) | ((show Nat.le (ByteArray.size _ + ByteArray.size _) _; rw [hsq]; exact Nat.le_of_ble_eq_true rfl)) | (refine app_consm (f := fun w => [es w]) (e0 := w0) (ByteArray.mk #[115] ++ sq) rfl ?_) | refine o1 ?_ | refine o2 ?_ | refine k1 ?_ | refine k2 ?_ | refine k3 ?_ | refine k4 ?_ | refine k6 ?_ | refine And.intro ?_ ?_ | (intro h; first | exact Bool.noConfusion h | exact nz _ h | exact nl h | (simp at h; done) | (simp at h; first | (exfalso; omega) | skip) | skip) | (refine (?_ : srcLen _ = rowsLen _); rfl) | refine eqv_wrap (by omega) (by omega) ?_ | refine eqv_u8 (by omega) (by omega) ?_ | (refine (?_ : _ ≤ 140737488355328); simp [rowsLen] <;> omega) | (refine (?_ : _ ≤ 9223372036854775807); simp [rowsLen] <;> omega) | (refine (?_ : _ = rowsLen _); simp [rowsLen] <;> omega) | (change vcFun _ _ _ _ _; refine call_one2 0 rfl (by assumption) (by assumption) (by omega) (by omega) ?_; intro bq kq hkq) | fail)
                all_goals first
                  | (exfalso; omega)
                  | skip
                · exact ⟨(i + 1, kq, w0 :: (ss ++ [ByteArray.mk #[115] ++ sq])), ⟨⟨by show i + 1 ≤ 4; omega, by show List.length _ ≤ i + 1; simp; try omega⟩, hkq⟩, (by show 4 - (i + 1) < 4 - i; omega), back [0, 1, 2, 3, 4, 5, 9] rfl rfl (by repeat' (first | exact trivial | exact rfl | refine And.intro ?_ ?_)) (by repeat' (first | exact trivial | exact rfl | refine And.intro ?_ ?_))⟩
                · exact ⟨(i + 1, kq, w0 :: ss), ⟨⟨by show i + 1 ≤ 4; omega, by show List.length _ ≤ i + 1; simp; try omega⟩, hkq⟩, (by show 4 - (i + 1) < 4 - i; omega), back [0, 1, 2, 3, 4, 5, 6] rfl rfl (by repeat' (first | exact trivial | exact rfl | refine And.intro ?_ ?_)) (by repeat' (first | exact trivial | exact rfl | refine And.intro ?_ ?_))⟩
              · repeat' (first | (refine join_in (a := .seq (.region 19 _ _) _) (fun _ => []) (fun x : Nat × List Str => [dice t x.1, zeroX, some ⟨33, 8, false, .box [.pv (encRooms rl), slP 3 4 (([]).map Exam.row), nilA, z0, z0, z0, z0, z0]⟩, obP 69 4 (([]).map Exam.row), none, some ⟨69, 4, false, .box [.pv (es (ByteArray.mk #[69] ++ s)), vint .i64 (1 + v), nilA, .pv (encStrs x.2)]⟩]) (fun x => x.1 ≤ t.length) ?_) | refine o1 ?_ | refine o2 ?_ | refine k1 ?_ | refine k2 ?_ | refine k3 ?_ | refine k6 ?_ | refine k8 ?_ | refine And.intro ?_ ?_ | (intro h; first | exact Bool.noConfusion h | exact nz _ h | exact nl h | (simp at h; done) | (simp at h; first | (exfalso; omega) | skip) | skip) | fail)
                all_goals first
                  | (exfalso; omega)
                  | skip
                · refine ⟨(k, w0 :: ss), c4, Ghost.trans (Ghost.shut (i := 5) (c := 3) (x := .ms 6 1 0 ((List.map (fun w => [es w]) ss).length + 1)) rfl rfl rfl (by repeat' (first | (show 0 + _ ≤ List.length _; simp))) (show ¬ (5 ∈ ([6] : List Nat)) by decide) (ALe.pv (PLe.sl (?_ : PLeLL _ ((w0 :: ss).map fun w => [es w]))))) (back [0, 1, 2, 3, 4, 5] rfl rfl (by repeat' (first | exact trivial | exact rfl | refine And.intro ?_ ?_)) (by repeat' (first | exact trivial | exact rfl | refine And.intro ?_ ?_)))⟩
                  rw [List.drop_zero, List.take_of_length_le (by simp)]
                  exact PLeLL.refl
                refine ⟨?_⟩
                rintro ⟨k, us⟩ c5
                dsimp only [slP, obP, zeroX, nilA, z0, List.length_cons, List.length_nil, List.map] at c5 ⊢
                repeat' (first | (refine join_in (a := .seq (.region 21 _ _) _) (fun _ => []) (fun x : Nat × List Str => [dice t x.1, zeroX, some ⟨33, 8, false, .box [.pv (encRooms rl), slP 3 4 (([]).map Exam.row), nilA, z0, z0, z0, z0, z0]⟩, obP 69 4 (([]).map Exam.row), none, some ⟨69, 4, false, .box [.pv (es (ByteArray.mk #[69] ++ s)), vint .i64 (1 + v), .pv (encStrs x.2), .pv (encStrs us)]⟩]) (fun x => x.1 ≤ t.length) ?_) | refine o1 ?_ | refine o2 ?_ | refine k1 ?_ | refine k2 ?_ | refine k3 ?_ | refine k6 ?_ | refine And.intro ?_ ?_ | (intro h; first | exact Bool.noConfusion h | exact nz _ h | exact nl h | (simp at h; done) | (simp at h; first | (exfalso; omega) | skip) | skip) | (change vcFun _ _ _ _ _; refine call_one2 0 rfl (by assumption) (by assumption) (by omega) (by omega) ?_; intro bq kq hkq) | fail)
                · exact ⟨(kq, [⟨#[108, 97, 98]⟩]), hkq, Ghost.trans (Ghost.shut (i := 5) (c := 2) (x := .ms 6 1 0 1) rfl rfl rfl (by repeat' (first | (show 0 + _ ≤ List.length _; simp))) (show ¬ (5 ∈ ([6] : List Nat)) by decide) ALe.refl) (back [0, 1, 2, 3, 4, 5] rfl rfl (by repeat' (first | exact trivial | exact rfl | refine And.intro ?_ ?_)) (by repeat' (first | exact trivial | exact rfl | refine And.intro ?_ ?_)))⟩
                · exact ⟨(kq, []), hkq, Ghost.trans (Ghost.shut (i := 5) (c := 2) (x := .pv (.val (.slice none 0 0))) rfl rfl rfl (by repeat' (first | trivial)) (show ¬ (5 ∈ ([] : List Nat)) by decide) (ALe.pv PLe.nil)) (back [0, 1, 2, 3, 4, 5] rfl rfl (by repeat' (first | exact trivial | exact rfl | refine And.intro ?_ ?_)) (by repeat' (first | exact trivial | exact rfl | refine And.intro ?_ ?_)))⟩
                refine ⟨?_⟩
                rintro ⟨k, fs⟩ c6
                dsimp only [slP, obP, zeroX, nilA, z0, List.length_cons, List.length_nil, List.map] at c6 ⊢
                repeat' (first | refine o1 ?_ | refine o2 ?_ | refine k2 ?_ | refine And.intro ?_ ?_ | (intro h; first | exact Bool.noConfusion h | exact nz _ h | exact nl h | (simp at h; done) | (simp at h; first | (exfalso; omega) | skip) | skip) | (refine (?_ : srcLen _ = rowsLen _); rfl) | exact Nat.le_of_ble_eq_true rfl | refine eqv_wrap (by omega) (by omega) ?_ | refine eqv_to _ (app_first rfl) (eqv_to 1 rfl ?_) | fail)
                all_goals first
                  | (exfalso; omega)
                  | skip
                · exact ⟨(n - 1, k, [⟨ByteArray.mk #[69] ++ s, 1 + v, fs, us⟩]), ⟨by show n - 1 + List.length _ ≤ 5; simp; try omega, c6⟩, (by show n - 1 < n; omega), back [0, 1, 2, 7] rfl rfl (by repeat' (first | exact trivial | exact rfl | refine And.intro ?_ ?_)) ⟨slot_eq rfl (congrArg (vint .i64) (by show _ = ((n - 1 : Nat) : Int); omega)), by repeat' (first | exact trivial | exact rfl | refine And.intro ?_ ?_)⟩⟩
        · have hlm : ((e0 :: l).map Exam.row).length = (e0 :: l).length := List.length_map ..
          dsimp only [slP, obP, zeroX, nilA, z0, List.length_cons, List.length_nil, List.map] at c1 c2 hlm ⊢
          rcases Nat.eq_zero_or_pos n with rfl | hn
          · repeat' (first | refine o1 ?_ | refine o2 ?_ | refine k1 ?_ | refine k2 ?_ | refine k3 ?_ | refine k8 ?_ | refine And.intro ?_ ?_ | (intro h; first | exact Bool.noConfusion h | exact nz _ h | exact nl h | (simp at h; done) | (simp at h; first | (exfalso; omega) | skip) | skip) | fail)
            first
              | exact ⟨(k, []), ⟨c2, Nat.zero_le _⟩, Ghost.trans (Ghost.shut (i := 2) (c := 1) (x := .pv (.val (.slice none 0 0))) rfl rfl rfl (by repeat' (first | trivial)) (show ¬ (2 ∈ ([] : List Nat)) by decide) (ALe.pv PLe.nil)) (back [0, 1, 2] rfl rfl ⟨rfl, rfl, rfl, trivial⟩ (by repeat' (first | exact trivial | exact rfl | refine And.intro ?_ ?_)))⟩
              | (refine ⟨(k, e0 :: l), ⟨c2, (by show List.length _ ≤ 5; simp only [List.length_cons]; omega)⟩, Ghost.trans (Ghost.shut (i := 2) (c := 1) (x := .ms 3 4 0 ((List.map Exam.row l).length + 1)) rfl rfl rfl (by repeat' (first | (show 0 + _ ≤ List.length _; simp))) (show ¬ (2 ∈ ([3] : List Nat)) by decide) (ALe.pv (PLe.sl (?_ : PLeLL _ ((e0 :: l).map Exam.row))))) (back [0, 1, 2] rfl rfl ⟨rfl, rfl, rfl, trivial⟩ (by repeat' (first | exact trivial | exact rfl | refine And.intro ?_ ?_)))⟩
                 rw [List.drop_zero, List.take_of_length_le (by simp)]
                 exact PLeLL.refl)
          · repeat' (first | (refine bytes_one (by omega) (by omega) rfl (fun s hs => ?_)) | ((show Nat.le (ByteArray.size _ + ByteArray.size _) _; rw [hs]; exact Nat.le_of_ble_eq_true rfl)) | refine o1 ?_ | refine o2 ?_ | refine k1 ?_ | refine k2 ?_ | refine k3 ?_ | refine k4 ?_ | refine k6 ?_ | refine And.intro ?_ ?_ | refine o3 ?_ | refine o4 ?_ | (intro h; first | exact Bool.noConfusion h | exact nz _ h | exact nl h | (simp at h; done) | (simp at h; first | (exfalso; omega) | skip) | skip) | exact (by kernel_rfl : drawOk _ _ = true) | refine eqv_wrap (by omega) (by omega) ?_ | refine eqv_u8 (by omega) (by omega) ?_ | (change vcFunD _ _ _ _ _; refine callD_next 0 rfl (by assumption) (by assumption) (by omega) (by omega) ?_; intro v kq hv1 hv2 hkq) | fail)
            all_goals first
              | (exfalso; omega)
              | skip
            refine loop_in (fun x : Nat × Nat × List Str => [(7, vint .i64 x.1)]) (fun x => [dice t x.2.1, zeroX, some ⟨33, 8, false, .box [.pv (encRooms rl), slP 3 4 ((e0 :: l).map Exam.row), nilA, z0, z0, z0, z0, z0]⟩, obP 69 4 ((e0 :: l).map Exam.row), none, some ⟨69, 4, false, .box [.pv (es (ByteArray.mk #[69] ++ s)), vint .i64 (1 + v), nilA, slP 6 1 (x.2.2.map fun w => [es w])]⟩, obP 9 1 (x.2.2.map fun w => [es w])])
              (fun x => (x.1 ≤ 4 ∧ x.2.2.length ≤ x.1) ∧ x.2.1 ≤ t.length) (fun x => 4 - x.1) (0, kq, []) ⟨⟨by simp, by simp⟩, hkq⟩ ⟨?_, ?_⟩
            · exact back [0, 1, 2, 3, 4, 5, 6] rfl rfl (by repeat' (first | exact trivial | exact rfl | refine And.intro ?_ ?_)) (by repeat' (first | exact trivial | exact rfl | refine And.intro ?_ ?_))
            rintro ⟨i, k, ss⟩ ⟨c3, c4⟩
            rcases ss with _ | ⟨w0, ss⟩
            · dsimp only [slP, obP, zeroX, nilA, z0, List.length_cons, List.length_nil, List.map] at c3 c4 ⊢
              rcases Nat.lt_or_ge i 4 with hi | hi
              · repeat' (first | (refine bytes_one (by omega) (by omega) rfl (fun sq hsq => ?_)) | ((show Nat.le (ByteArray.size _ + ByteArray.size _) _; rw [hsq]; exact Nat.le_of_ble_eq_true rfl)) | refine o1 ?_ | refine o2 ?_ | refine k1 ?_ | refine k2 ?_ | refine k3 ?_ | refine k4 ?_ | refine k6 ?_ | refine And.intro ?_ ?_ | (intro h; first | exact Bool.noConfusion h | exact nz _ h | exact nl h | (simp at h; done) | (simp at h; first | (exfalso; omega) | skip) | skip) | (refine (?_ : srcLen _ = rowsLen _); rfl) | exact Nat.le_of_ble_eq_true rfl | refine eqv_wrap (by omega) (by omega) ?_ | refine eqv_u8 (by omega) (by omega) ?_ | refine eqv_to _ (app_first rfl) (eqv_to 1 rfl ?_) | (change vcFun _ _ _ _ _; refine call_one2 0 rfl (by assumption) (by assumption) (by omega) (by omega) ?_; intro bq kq hkq) | fail)
                all_goals first
                  | (exfalso; omega)
                  | skip
                · exact ⟨(i + 1, kq, [ByteArray.mk #[115] ++ sq]), ⟨⟨by show i + 1 ≤ 4; omega, by show List.length _ ≤ i + 1; simp; try omega⟩, hkq⟩, (by show 4 - (i + 1) < 4 - i; omega), back [0, 1, 2, 3, 4, 5, 9] rfl rfl (by repeat' (first | exact trivial | exact rfl | refine And.intro ?_ ?_)) (by repeat' (first | exact trivial | exact rfl | refine And.intro ?_ ?_))⟩
                · exact ⟨(i + 1, kq, []), ⟨⟨by show i + 1 ≤ 4; omega, by show List.length _ ≤ i + 1; simp; try omega⟩, hkq⟩, (by show 4 - (i + 1) < 4 - i; omega), back [0, 1, 2, 3, 4, 5, 6] rfl rfl (by repeat' (first | exact trivial | exact rfl | refine And.intro ?_ ?_)) (by repeat' (first | exact trivial | exact rfl | refine And.intro ?_ ?_))⟩
              · repeat' (first | (refine join_in (a := .seq (.region 19 _ _) _) (fun _ => []) (fun x : Nat × List Str => [dice t x.1, zeroX, some ⟨33, 8, false, .box [.pv (encRooms rl), slP 3 4 ((e0 :: l).map Exam.row), nilA, z0, z0, z0, z0, z0]⟩, obP 69 4 ((e0 :: l).map Exam.row), none, some ⟨69, 4, false, .box [.pv (es (ByteArray.mk #[69] ++ s)), vint .i64 (1 + v), nilA, .pv (encStrs x.2)]⟩]) (fun x => x.1 ≤ t.length) ?_) | refine o1 ?_ | refine o2 ?_ | refine k1 ?_ | refine k2 ?_ | refine k3 ?_ | refine k8 ?_ | refine And.intro ?_ ?_ | (intro h; first | exact Bool.noConfusion h | exact nz _ h | exact nl h | (simp at h; done) | (simp at h; first | (exfalso; omega) | skip) | skip) | fail)
                all_goals first
                  | (exfalso; omega)
                  | skip
                · exact ⟨(k, [⟨#[115, 57]⟩]), c4, Ghost.trans (Ghost.shut (i := 5) (c := 3) (x := .ms 7 1 0 1) rfl rfl rfl (by repeat' (first | (show 0 + _ ≤ List.length _; simp))) (show ¬ (5 ∈ ([7] : List Nat)) by decide) ALe.refl) (back [0, 1, 2, 3, 4, 5] rfl rfl (by repeat' (first | exact trivial | exact rfl | refine And.intro ?_ ?_)) (by repeat' (first | exact trivial | exact rfl | refine And.intro ?_ ?_)))⟩
                refine ⟨?_⟩
                rintro ⟨k, us⟩ c5
                dsimp only [slP, obP, zeroX, nilA, z0, List.length_cons, List.length_nil, List.map] at c5 ⊢
                repeat' (first | (refine join_in (a := .seq (.region 21 _ _) _) (fun _ => []) (fun x : Nat × List Str => [dice t x.1, zeroX, some ⟨33, 8, false, .box [.pv (encRooms rl), slP 3 4 ((e0 :: l).map Exam.row), nilA, z0, z0, z0, z0, z0]⟩, obP 69 4 ((e0 :: l).map Exam.row), none, some ⟨69, 4, false, .box [.pv (es (ByteArray.mk #[69] ++ s)), vint .i64 (1 + v), .pv (encStrs x.2), .pv (encStrs us)]⟩]) (fun x => x.1 ≤ t.length) ?_) | refine o1 ?_ | refine o2 ?_ | refine k1 ?_ | refine k2 ?_ | refine k3 ?_ | refine k6 ?_ | refine And.intro ?_ ?_ | (intro h; first | exact Bool.noConfusion h | exact nz _ h | exact nl h | (simp at h; done) | (simp at h; first | (exfalso; omega) | skip) | skip) | (change vcFun _ _ _ _ _; refine call_one2 0 rfl (by assumption) (by assumption) (by omega) (by omega) ?_; intro bq kq hkq) | fail)
                · exact ⟨(kq, [⟨#[108, 97, 98]⟩]), hkq, Ghost.trans (Ghost.shut (i := 5) (c := 2) (x := .ms 6 1 0 1) rfl rfl rfl (by repeat' (first | (show 0 + _ ≤ List.length _; simp))) (show ¬ (5 ∈ ([6] : List Nat)) by decide) ALe.refl) (back [0, 1, 2, 3, 4, 5] rfl rfl (by repeat' (first | exact trivial | exact rfl | refine And.intro ?_ ?_)) (by repeat' (first | exact trivial | exact rfl | refine And.intro ?_ ?_)))⟩
                · exact ⟨(kq, []), hkq, Ghost.trans (Ghost.shut (i := 5) (c := 2) (x := .pv (.val (.slice none 0 0))) rfl rfl rfl (by repeat' (first | trivial)) (show ¬ (5 ∈ ([] : List Nat)) by decide) (ALe.pv PLe.nil)) (back [0, 1, 2, 3, 4, 5] rfl rfl (by repeat' (first | exact trivial | exact rfl | refine And.intro ?_ ?_)) (by repeat' (first | exact trivial | exact rfl | refine And.intro ?_ ?_)))⟩
                refine ⟨?_⟩
                rintro ⟨k, fs⟩ c6
                dsimp only [slP, obP, zeroX, nilA, z0, List.length_cons, List.length_nil, List.map] at c6 ⊢
                repeat' (first | (refine app_consm (f := Exam.row) ⟨ByteArray.mk #[69] ++ s, 1 + v, fs, us⟩ rfl ?_) | refine o1 ?_ | refine o2 ?_ | refine k2 ?_ | refine And.intro ?_ ?_ | (refine (?_ : srcLen _ = rowsLen _); rfl) | refine eqv_wrap (by omega) (by omega) ?_ | (refine (?_ : _ ≤ 140737488355328); simp [rowsLen] <;> omega) | (refine (?_ : _ ≤ 9223372036854775807); simp [rowsLen] <;> omega) | (refine (?_ : _ = rowsLen _); simp [rowsLen] <;> omega) | fail)
                all_goals first
                  | (exfalso; omega)
                  | skip
                · exact ⟨(n - 1, k, e0 :: (l ++ [⟨ByteArray.mk #[69] ++ s, 1 + v, fs, us⟩])), ⟨by show n - 1 + List.length _ ≤ 5; simp; try omega, c6⟩, (by show n - 1 < n; omega), back [0, 1, 2, 7] rfl rfl (by repeat' (first | exact trivial | exact rfl | refine And.intro ?_ ?_)) ⟨slot_eq rfl (congrArg (vint .i64) (by show _ = ((n - 1 : Nat) : Int); omega)), by repeat' (first | exact trivial | exact rfl | refine And.intro ?_ ?_)⟩⟩
            · dsimp only [slP, obP, zeroX, nilA, z0, List.length_cons, List.length_nil, List.map] at c3 c4 ⊢
              rcases Nat.lt_or_ge i 4 with hi | hi
              · repeat' (first | (refine bytes_one (by omega) (by omega) rfl (fun sq hsq => ?_)) | ((show Nat.le (ByteArray.size _ + ByteArray.size _) _; rw [hsq]; exact Nat.le_of_ble_eq_true rfl)) | (refine app_consm (f := fun w => [es w]) (e0 := w0) (ByteArray.mk #[115] ++ sq) rfl ?_) | refine o1 ?_ | refine o2 ?_ | refine k1 ?_ | refine k2 ?_ | refine k3 ?_ | refine k4 ?_ | refine k6 ?_ | refine And.intro ?_ ?_ | (intro h; first | exact Bool.noConfusion h | exact nz _ h | exact nl h | (simp at h; done) | (simp at h; first | (exfalso; omega) | skip) | skip) | (refine (?_ : srcLen _ = rowsLen _); rfl) | refine eqv_wrap (by omega) (by omega) ?_ | refine eqv_u8 (by omega) (by omega) ?_ | (refine (?_ : _ ≤ 140737488355328); simp [rowsLen] <;> omega) | (refine (?_ : _ ≤ 9223372036854775807); simp [rowsLen] <;> omega) | (refine (?_ : _ = rowsLen _); simp [rowsLen] <;> omega) | (change vcFun _ _ _ _ _; refine call_one2 0 rfl (by assumption) (by assumption) (by omega) (by omega) ?_; intro bq kq hkq) | fail)
                all_goals first
                  | (exfalso; omega)
                  | skip
                · exact ⟨(i + 1, kq, w0 :: (ss ++ [ByteArray.mk #[115] ++ sq])), ⟨⟨by show i + 1 ≤ 4; omega, by show List.length _ ≤ i + 1; simp; try omega⟩, hkq⟩, (by show 4 - (i + 1) < 4 - i; omega), back [0, 1, 2, 3, 4, 5, 9] rfl rfl (by repeat' (first | exact trivial | exact rfl | refine And.intro ?_ ?_)) (by repeat' (first | exact trivial | exact rfl | refine And.intro ?_ ?_))⟩
                · exact ⟨(i + 1, kq, w0 :: ss), ⟨⟨by show i + 1 ≤ 4; omega, by show List.length _ ≤ i + 1; simp; try omega⟩, hkq⟩, (by show 4 - (i + 1) < 4 - i; omega), back [0, 1, 2, 3, 4, 5, 6] rfl rfl (by repeat' (first | exact trivial | exact rfl | refine And.intro ?_ ?_)) (by repeat' (first | exact trivial | exact rfl | refine And.intro ?_ ?_))⟩
              · repeat' (first | (refine join_in (a := .seq (.region 19 _ _) _) (fun _ => []) (fun x : Nat × List Str => [dice t x.1, zeroX, some ⟨33, 8, false, .box [.pv (encRooms rl), slP 3 4 ((e0 :: l).map Exam.row), nilA, z0, z0, z0, z0, z0]⟩, obP 69 4 ((e0 :: l).map Exam.row), none, some ⟨69, 4, false, .box [.pv (es (ByteArray.mk #[69] ++ s)), vint .i64 (1 + v), nilA, .pv (encStrs x.2)]⟩]) (fun x => x.1 ≤ t.length) ?_) | refine o1 ?_ | refine o2 ?_ | refine k1 ?_ | refine k2 ?_ | refine k3 ?_ | refine k6 ?_ | refine k8 ?_ | refine And.intro ?_ ?_ | (intro h; first | exact Bool.noConfusion h | exact nz _ h | exact nl h | (simp at h; done) | (simp at h; first | (exfalso; omega) | skip) | skip) | fail)
                all_goals first
                  | (exfalso; omega)
                  | skip
                · refine ⟨(k, w0 :: ss), c4, Ghost.trans (Ghost.shut (i := 5) (c := 3) (x := .ms 6 1 0 ((List.map (fun w => [es w]) ss).length + 1)) rfl rfl rfl (by repeat' (first | (show 0 + _ ≤ List.length _; simp))) (show ¬ (5 ∈ ([6] : List Nat)) by decide) (ALe.pv (PLe.sl (?_ : PLeLL _ ((w0 :: ss).map fun w => [es w]))))) (back [0, 1, 2, 3, 4, 5] rfl rfl (by repeat' (first | exact trivial | exact rfl | refine And.intro ?_ ?_)) (by repeat' (first | exact trivial | exact rfl | refine And.intro ?_ ?_)))⟩
                  rw [List.drop_zero, List.take_of_length_le (by simp)]
                  exact PLeLL.refl
                refine ⟨?_⟩
                rintro ⟨k, us⟩ c5
                dsimp only [slP, obP, zeroX, nilA, z0, List.length_cons, List.length_nil, List.map] at c5 ⊢
                repeat' (first | (refine join_in (a := .seq (.region 21 _ _) _) (fun _ => []) (fun x : Nat × List Str => [dice t x.1, zeroX, some ⟨33, 8, false, .box [.pv (encRooms rl), slP 3 4 ((e0 :: l).map Exam.row), nilA, z0, z0, z0, z0, z0]⟩, obP 69 4 ((e0 :: l).map Exam.row), none, some ⟨69, 4, false, .box [.pv (es (ByteArray.mk #[69] ++ s)), vint .i64 (1 + v), .pv (encStrs x.2), .pv (encStrs us)]⟩]) (fun x => x.1 ≤ t.length) ?_) | refine o1 ?_ | refine o2 ?_ | refine k1 ?_ | refine k2 ?_ | refine k3 ?_ | refine k6 ?_ | refine And.intro ?_ ?_ | (intro h; first | exact Bool.noConfusion h | exact nz _ h | exact nl h | (simp at h; done) | (simp at h; first | (exfalso; omega) | skip) | skip) | (change vcFun _ _ _ _ _; refine call_one2 0 rfl (by assumption) (by assumption) (by omega) (by omega) ?_; intro bq kq hkq) | fail)
                · exact ⟨(kq, [⟨#[108, 97, 98]⟩]), hkq, Ghost.trans (Ghost.shut (i := 5) (c := 2) (x := .ms 6 1 0 1) rfl rfl rfl (by repeat' (first | (show 0 + _ ≤ List.length _; simp))) (show ¬ (5 ∈ ([6] : List Nat)) by decide) ALe.refl) (back [0, 1, 2, 3, 4, 5] rfl rfl (by repeat' (first | exact trivial | exact rfl | refine And.intro ?_ ?_)) (by repeat' (first | exact trivial | exact rfl | refine And.intro ?_ ?_)))⟩
                · exact ⟨(kq, []), hkq, Ghost.trans (Ghost.shut (i := 5) (c := 2) (x := .pv (.val (.slice none 0 0))) rfl rfl rfl (by repeat' (first | trivial)) (show ¬ (5 ∈ ([] : List Nat)) by decide) (ALe.pv PLe.nil)) (back [0, 1, 2, 3, 4, 5] rfl rfl (by repeat' (first | exact trivial | exact rfl | refine And.intro ?_ ?_)) (by repeat' (first | exact trivial | exact rfl | refine And.intro ?_ ?_)))⟩
                refine ⟨?_⟩
                rintro ⟨k, fs⟩ c6
                dsimp only [slP, obP, zeroX, nilA, z0, List.length_cons, List.length_nil, List.map] at c6 ⊢
                repeat' (first | (refine app_consm (f := Exam.row) ⟨ByteArray.mk #[69] ++ s, 1 + v, fs, us⟩ rfl ?_) | refine o1 ?_ | refine o2 ?_ | refine k2 ?_ | refine And.intro ?_ ?_ | (refine (?_ : srcLen _ = rowsLen _); rfl) | refine eqv_wrap (by omega) (by omega) ?_ | (refine (?_ : _ ≤ 140737488355328); simp [rowsLen] <;> omega) | (refine (?_ : _ ≤ 9223372036854775807); simp [rowsLen] <;> omega) | (refine (?_ : _ = rowsLen _); simp [rowsLen] <;> omega) | fail)
                all_goals first
                  | (exfalso; omega)
                  | skip
                · exact ⟨(n - 1, k, e0 :: (l ++ [⟨ByteArray.mk #[69] ++ s, 1 + v, fs, us⟩])), ⟨by show n - 1 + List.length _ ≤ 5; simp; try omega, c6⟩, (by show n - 1 < n; omega), back [0, 1, 2, 7] rfl rfl (by repeat' (first | exact trivial | exact rfl | refine And.intro ?_ ?_)) ⟨slot_eq rfl (congrArg (vint .i64) (by show _ = ((n - 1 : Nat) : Int); omega)), by repeat' (first | exact trivial | exact rfl | refine And.intro ?_ ?_)⟩⟩
      refine ⟨?_⟩
      rintro ⟨k, l⟩ ⟨c3, cle⟩
      dsimp only [slP, obP, zeroX, nilA, z0, List.length_cons, List.length_nil] at c3 ⊢
      repeat' (first | (refine join_in (a := .seq (.region 25 _ _) _) (fun _ => []) (fun x : Nat × List Sitting => [dice t x.1, zeroX, some ⟨33, 8, false, .box [.pv (encRooms rl), .pv (.sl 4 (l.map Exam.row)), .pv (.sl 4 (x.2.map Sitting.row)), z0, z0, z0, z0, z0]⟩]) (fun x => x.1 ≤ t.length ∧ x.2.length ≤ 5) ?_) | refine o1 ?_ | refine o2 ?_ | refine k1 ?_ | refine k2 ?_ | refine k4 ?_ | refine And.intro ?_ ?_ | refine eqv_wrap (by omega) (by omega) ?_ | (change vcFun _ _ _ _ _; refine call_next 0 rfl (by assumption) (by assumption) (by omega) (by omega) ?_; intro v kq hv1 hv2 hkq) | fail)
      · refine loop_in (fun x : Nat × Int × Int × Nat × List (List PV) => [(8, vint .i64 x.2.1), (9, vint .i64 x.2.2.1), (10, vint .i64 x.1)]) (fun x => [dice t x.2.2.2.1, zeroX, some ⟨33, 8, false, .box [.pv (encRooms rl), .pv (.sl 4 (l.map Exam.row)), slP 3 4 x.2.2.2.2, z0, z0, z0, z0, z0]⟩, obP 23 4 x.2.2.2.2])
          (fun x => (x.1 + x.2.2.2.2.length ≤ 5 ∧ 0 ≤ x.2.1 ∧ x.2.1 + 10 * x.1 ≤ 100 ∧ 0 ≤ x.2.2.1 ∧ x.2.2.1 + 10 * x.1 ≤ 100) ∧ x.2.2.2.1 ≤ t.length ∧ ∀ r ∈ x.2.2.2.2, sitR r) (fun x => x.1) ((1 + v).toNat, 0, 0, kq, []) ⟨⟨by simp; omega, by simp, by simp; omega, by simp, by simp; omega⟩, hkq, by simp⟩ ⟨?_, ?_⟩
        · exact back [0, 1, 2, 3] rfl rfl ⟨rfl, rfl, rfl, trivial⟩ ⟨rfl, rfl, slot_eq rfl (congrArg (vint .i64) (by show _ = (((1 + v).toNat : Nat) : Int); omega)), by repeat' (first | exact trivial | exact rfl | refine And.intro ?_ ?_)⟩
        rintro ⟨n, day, start, k, rs⟩ ⟨c4, c5, c6⟩
        rcases rs with _ | ⟨r, rs⟩
        · dsimp only [slP, obP, zeroX, nilA, z0, List.length_cons, List.length_nil] at c4 c5 c6 ⊢
          rcases Nat.eq_zero_or_pos n with rfl | hn
          · obtain ⟨sl, hsl⟩ := sits_ex c6
            repeat' (first | refine o1 ?_ | refine o2 ?_ | refine k1 ?_ | refine k2 ?_ | refine k3 ?_ | refine k8 ?_ | refine And.intro ?_ ?_ | (intro h; first | exact Bool.noConfusion h | exact nz _ h | exact nl h | (simp at h; done) | (simp at h; first | (exfalso; omega) | skip) | skip) | fail)
            first
              | exact ⟨(k, []), ⟨c5, Nat.zero_le _⟩, Ghost.trans (Ghost.shut (i := 2) (c := 2) (x := .pv (.val (.slice none 0 0))) rfl rfl rfl (by repeat' (first | trivial)) (show ¬ (2 ∈ ([] : List Nat)) by decide) (ALe.pv PLe.nil)) (back [0, 1, 2] rfl rfl ⟨rfl, rfl, rfl, trivial⟩ (by repeat' (first | exact trivial | exact rfl | refine And.intro ?_ ?_)))⟩
              | (refine ⟨(k, sl), ⟨c5, (by have := congrArg List.length hsl; simp only [List.length_cons, List.length_map] at this; show sl.length ≤ 5; omega)⟩, Ghost.trans (Ghost.shut (i := 2) (c := 2) (x := .ms 3 4 0 (rs.length + 1)) rfl rfl rfl (by skip) (show ¬ (2 ∈ ([3] : List Nat)) by decide) (ALe.pv (PLe.sl (?_ : PLeLL _ (sl.map Sitting.row))))) (back [0, 1, 2] rfl rfl ⟨rfl, rfl, rfl, trivial⟩ (by skip))⟩
                 rw [← hsl, List.drop_zero, List.take_of_length_le (by simp)]
                 exact PLeLL.refl)
          · repeat' (first | refine o1 ?_ | refine o2 ?_ | refine k1 ?_ | refine k2 ?_ | refine k3 ?_ | refine k4 ?_ | refine k6 ?_ | refine And.intro ?_ ?_ | (intro h; first | exact Bool.noConfusion h | exact nz _ h | exact nl h | (simp at h; done) | (simp at h; first | (exfalso; omega) | skip) | skip) | (refine (?_ : srcLen _ = rowsLen _); rfl) | exact Nat.le_of_ble_eq_true rfl | exact (by kernel_rfl : drawOk _ _ = true) | refine eqv_wrap (by omega) (by omega) ?_ | refine eqv_to _ (app_first rfl) (eqv_to 1 rfl ?_) | (change vcFun _ _ _ _ _; refine call_next 0 rfl (by assumption) (by assumption) (by omega) (by omega) ?_; intro v kq hv1 hv2 hkq) | (change vcFun _ _ _ _ _; refine call_one2 0 rfl (by assumption) (by assumption) (by omega) (by omega) ?_; intro bq kq hkq) | fail)
            all_goals first
              | (exfalso; omega)
              | skip
            all_goals exact ⟨(n - 1, _, _, kq, [_]), ⟨⟨(by show n - 1 + List.length _ ≤ 5; simp; try omega), (by dsimp only; omega), (by dsimp only; omega), (by dsimp only; omega), (by dsimp only; omega)⟩, hkq, (fun q hq => by
              rcases mem_app (l := []) hq with hq | hq
              · exact c6 q hq
              · subst hq; exact ⟨⟨_, _, _, _⟩, rfl⟩)⟩, (by show n - 1 < n; omega), back [0, 1, 2, 6] rfl rfl ⟨rfl, rfl, rfl, rfl, trivial⟩ ⟨rfl, rfl, slot_eq rfl (congrArg (vint .i64) (by show _ = ((n - 1 : Nat) : Int); omega)), by repeat' (first | exact trivial | exact rfl | refine And.intro ?_ ?_)⟩⟩
        · dsimp only [slP, obP, zeroX, nilA, z0, List.length_cons, List.length_nil] at c4 c5 c6 ⊢
          rcases Nat.eq_zero_or_pos n with rfl | hn
          · obtain ⟨sl, hsl⟩ := sits_ex c6
            repeat' (first | refine o1 ?_ | refine o2 ?_ | refine k1 ?_ | refine k2 ?_ | refine k3 ?_ | refine k8 ?_ | refine And.intro ?_ ?_ | (intro h; first | exact Bool.noConfusion h | exact nz _ h | exact nl h | (simp at h; done) | (simp at h; first | (exfalso; omega) | skip) | skip) | fail)
            first
              | exact ⟨(k, []), ⟨c5, Nat.zero_le _⟩, Ghost.trans (Ghost.shut (i := 2) (c := 2) (x := .pv (.val (.slice none 0 0))) rfl rfl rfl (by repeat' (first | trivial)) (show ¬ (2 ∈ ([] : List Nat)) by decide) (ALe.pv PLe.nil)) (back [0, 1, 2] rfl rfl ⟨rfl, rfl, rfl, trivial⟩ (by repeat' (first | exact trivial | exact rfl | refine And.intro ?_ ?_)))⟩
              | (refine ⟨(k, sl), ⟨c5, (by have := congrArg List.length hsl; simp only [List.length_cons, List.length_map] at this; show sl.length ≤ 5; omega)⟩, Ghost.trans (Ghost.shut (i := 2) (c := 2) (x := .ms 3 4 0 (rs.length + 1)) rfl rfl rfl (by repeat' (first | (show 0 + _ ≤ List.length _; simp))) (show ¬ (2 ∈ ([3] : List Nat)) by decide) (ALe.pv (PLe.sl (?_ : PLeLL _ (sl.map Sitting.row))))) (back [0, 1, 2] rfl rfl ⟨rfl, rfl, rfl, trivial⟩ (by repeat' (first | exact trivial | exact rfl | refine And.intro ?_ ?_)))⟩
                 rw [← hsl, List.drop_zero, List.take_of_length_le (by simp)]
                 exact PLeLL.refl)
          · repeat' (first | (refine app_cons ?_) | refine o1 ?_ | refine o2 ?_ | refine k1 ?_ | refine k2 ?_ | refine k3 ?_ | refine k4 ?_ | refine k6 ?_ | refine And.intro ?_ ?_ | (intro h; first | exact Bool.noConfusion h | exact nz _ h | exact nl h | (simp at h; done) | (simp at h; first | (exfalso; omega) | skip) | skip) | (refine (?_ : srcLen _ = rowsLen _); rfl) | exact (by kernel_rfl : drawOk _ _ = true) | refine eqv_wrap (by omega) (by omega) ?_ | (refine (?_ : _ ≤ 140737488355328); simp [rowsLen] <;> omega) | (refine (?_ : _ ≤ 9223372036854775807); simp [rowsLen] <;> omega) | (refine (?_ : _ = rowsLen _); simp [rowsLen] <;> omega) | (change vcFun _ _ _ _ _; refine call_next 0 rfl (by assumption) (by assumption) (by omega) (by omega) ?_; intro v kq hv1 hv2 hkq) | (change vcFun _ _ _ _ _; refine call_one2 0 rfl (by assumption) (by assumption) (by omega) (by omega) ?_; intro bq kq hkq) | fail)
            all_goals first
              | (exfalso; omega)
              | skip
            all_goals exact ⟨(n - 1, _, _, kq, r :: (rs ++ [_])), ⟨⟨(by show n - 1 + List.length _ ≤ 5; simp; try omega), (by dsimp only; omega), (by dsimp only; omega), (by dsimp only; omega), (by dsimp only; omega)⟩, hkq, (fun q hq => by
              rcases mem_app (l := r :: rs) hq with hq | hq
              · exact c6 q hq
              · subst hq; exact ⟨⟨_, _, _, _⟩, rfl⟩)⟩, (by show n - 1 < n; omega), back [0, 1, 2, 6] rfl rfl ⟨rfl, rfl, rfl, rfl, trivial⟩ ⟨rfl, rfl, slot_eq rfl (congrArg (vint .i64) (by show _ = ((n - 1 : Nat) : Int); omega)), by repeat' (first | exact trivial | exact rfl | refine And.intro ?_ ?_)⟩⟩
      · refine ⟨?_⟩
        rintro ⟨k, sl⟩ ⟨c4, csl⟩
        dsimp only [slP, obP, zeroX, nilA, z0, List.length_cons, List.length_nil] at c4 csl cle ⊢
        repeat' (first | refine o1 ?_ | refine o2 ?_ | refine k1 ?_ | refine k2 ?_ | refine k7 ?_ | (change vcFun _ _ _ _ _; refine call_next 0 rfl (by assumption) (by assumption) (by omega) (by omega) ?_; intro v kq hv1 hv2 hkq) | fail)
        rename_i w1 q1 a1 a2 a3 w2 q2 b1 b2 b3 w3 q3 d1 d2 d3 w4 q4 e1 e2 e3
        exact ret_obj [0] [dice t kq] rfl rfl ⟨rfl, trivial⟩ (r' := ag (Exams.cells ⟨rl, l, sl, ⟨w1, w2, w3, w4, v⟩⟩)) rfl ⟨⟨rl, l, sl, ⟨w1, w2, w3, w4, v⟩⟩, kq, hkq, ⟨crl, cle, csl⟩, rfl, rfl⟩
    · repeat' (first | (refine bytes_one (by omega) (by omega) rfl (fun s hs => ?_)) | ((show Nat.le (ByteArray.size _ + ByteArray.size _) _; rw [hs]; exact Nat.le_of_ble_eq_true rfl)) | (refine app_cons ?_) | refine o1 ?_ | refine o2 ?_ | refine k1 ?_ | refine k2 ?_ | refine k3 ?_ | refine k4 ?_ | refine k6 ?_ | refine And.intro ?_ ?_ | refine o3 ?_ | refine o4 ?_ | (intro h; first | exact Bool.noConfusion h | exact nz _ h | exact nl h | (simp at h; done) | (simp at h; first | (exfalso; omega) | skip) | skip) | (refine (?_ : srcLen _ = rowsLen _); rfl) | exact (by kernel_rfl : drawOk _ _ = true) | refine eqv_wrap (by omega) (by omega) ?_ | refine eqv_u8 (by omega) (by omega) ?_ | (refine (?_ : _ ≤ 140737488355328); simp [rowsLen] <;> omega) | (refine (?_ : _ ≤ 9223372036854775807); simp [rowsLen] <;> omega) | (refine (?_ : _ = rowsLen _); simp [rowsLen] <;> omega) | (change vcFunD _ _ _ _ _; refine callD_next 0 rfl (by assumption) (by assumption) (by omega) (by omega) ?_; intro v kq hv1 hv2 hkq) | fail)
      all_goals first
        | (exfalso; omega)
        | skip
      exact ⟨(n - 1, kq, r :: (rs ++ [_])), ⟨⟨by show n - 1 + (r :: (rs ++ [_])).length ≤ 5; simp; omega, by show 1 ≤ n - 1 + (r :: (rs ++ [_])).length; simp; try omega⟩, hkq, fun q hq => by
        rcases mem_app (l := r :: rs) hq with hq | hq
        · exact c3 q hq
        · subst hq; exact ⟨_, _, _, rfl⟩⟩, (by show n - 1 < n; omega), back [0, 1, 2, 6] rfl rfl ⟨rfl, rfl, rfl, rfl, trivial⟩ ⟨slot_eq rfl (congrArg (vint .i64) (by show _ = ((n - 1 : Nat) : Int); omega)), by repeat' (first | exact trivial | exact rfl | refine And.intro ?_ ?_)⟩⟩
end Go.Proofs.YtpnghlibmpainaaGreat.Cw

/-
  Odd rooms.
-/
namespace Go.Cw
/-- A cell of a row becomes pure, the others are pure already. -/
theorem Ghost.shutK {n nh : Nat} {Γ : Slots} {H : Heap} {i k c ty z : Nat} {fz : Bool} {r : List PV} {xs : List (List PV)} {r0 : List AV} {x y : AV} {p' : PV} (hi : H[i]? = some (some ⟨ty, z, fz, .m ((xs.map pvs).set k r0)⟩)) (hk : xs[k]? = some r) (hr : r0 = (pvs r).set c x) (hlt : c < r.length)
    (hc : conv H x = some y) (hok : ok1 H x) (hn : i ∉ ids1 H x) (hle : ALe y (.pv p')) :
    Ghost n nh Γ H Γ ((app H (frz H (ids1 H x))).set i (some ⟨ty, z, fz, .p (xs.set k (r.set c p'))⟩)) := by
  have hkl : k < xs.length := (List.getElem?_eq_some_iff.1 hk).1
  refine Ghost.shutR (o := ⟨ty, z, fz, .m ((xs.map pvs).set k r0)⟩) hi (fun h j q hq => ?_) (fun c t => rfl) (fun j m u hu => ?_) hc hok hn hle
  · rw [List.getElem?_set] at hq
    split at hq
    · rename_i e; subst e
      injection hq with hq; subst hq
      have := h k r0 (by rw [List.getElem?_set_self (by simpa using hkl)])
      rw [hr, List.length_set, pvs_map, List.length_map] at this
      rw [List.length_set]; exact this
    · rename_i e
      have := h j (pvs q) (by rw [List.getElem?_set_ne e, List.getElem?_map, hq]; rfl)
      rw [pvs_map, List.length_map] at this; exact this
  · by_cases e : k = j
    · subst e
      simp only [rowCell] at hu ⊢
      rw [List.getElem?_set_self hkl] at hu
      rw [List.getElem?_set_self (by simpa using hkl), hr]
      simp only [Option.bind_some] at hu ⊢
      by_cases e : c = m
      · subst e
        right
        rw [List.getElem?_set_self hlt] at hu
        injection hu with hu
        exact ⟨hu.symm, List.getElem?_set_self (by rw [pvs_map, List.length_map]; exact hlt)⟩
      · left
        rw [List.getElem?_set_ne e] at hu ⊢
        rw [pvs_map, List.getElem?_map]; exact hu
    · left
      simp only [rowCell] at hu ⊢
      rw [List.getElem?_set_ne e] at hu ⊢
      rw [List.getElem?_map]
      cases h : xs[j]? with
      | none => rw [h] at hu; simp at hu
      | some q => rw [h] at hu; simpa [pvs_map] using hu
section
variable {P : Program} {T : Tab} {n nh : Nat} {a b : Code} {Q : Exit → Slots → Heap → Prop} {Γ : Slots} {H : Heap}
/-- As join_in and loop_in, but only the named slots are kept. -/
theorem join_to {X : Type} (g : X → Slots) (hp : X → Heap) (cond : X → Prop)
    (ha : xCode P T n nh a (thenQ (fun Γ' H' => ∃ x, cond x ∧ Ghost n nh Γ' H' (g x) (hp x)) Q) Γ H ∧ Later (∀ x, cond x → forceH (hp x) fun H1 => xCode P T n nh b Q (g x) H1)) : xCode P T n nh (.seq a b) Q Γ H := by
  refine code_join (fun S => ∃ x, cond x ∧ S = ⟨g x, hp x⟩) ?_ ?_
  · have : (fun Γ' H' => ∃ x, cond x ∧ Ghost n nh Γ' H' (g x) (hp x)) = fun Γ' H' => ∃ S, (∃ x, cond x ∧ S = (⟨g x, hp x⟩ : ASt)) ∧ Ghost n nh Γ' H' S.sl S.hp := by
      funext Γ' H'
      exact propext ⟨fun ⟨x, h1, h2⟩ => ⟨_, ⟨x, h1, rfl⟩, h2⟩, fun ⟨S, ⟨x, h1, e⟩, h2⟩ => ⟨x, h1, by subst e; exact h2⟩⟩
    rw [← this]
    exact ha.1
  · rintro S ⟨x, hx, rfl⟩
    have := ha.2.go x hx
    rw [forceH_eq] at this
    exact this
theorem loop_to {X : Type} (g : X → Slots) (hp : X → Heap) (cond : X → Prop) (μ : X → Nat) (x0 : X) (h0 : cond x0) (he : Ghost n nh Γ H (g x0) (hp x0))
    (hb : ∀ x, cond x → forceH (hp x) fun H1 => xCode P T n nh a (thenQ (fun Γ' H' => ∃ x', cond x' ∧ μ x' < μ x ∧ Ghost n nh Γ' H' (g x') (hp x')) Q) (g x) H1) : xCode P T n nh (.loop a) Q Γ H := by
  refine code_loop (fun x => ⟨g x, hp x⟩) cond μ ⟨x0, h0, he⟩ fun x hx => ?_
  have := hb x hx
  rw [forceH_eq] at this
  exact this
end
end Go.Cw
namespace Go.Proofs.YtpnghlibmpainaaGreat.Cw
open Go.Cw Go.Proofs
set_option linter.unusedVariables false
set_option maxRecDepth 100000
set_option maxHeartbeats 1600000

theorem app_whole {α : Type} {f : α → List PV} {e : α} {l : List α} {K : Go.Cw.Rows → Nat → Prop} (h : K (.p (f e :: l.map f)) (l.length + 1)) : eqv (Go.Cw.Rows.p (List.map f (e :: l))) fun rr => eqv (rowsLen rr) (K rr) :=
  ⟨_, rfl, _, by simp [rowsLen], h⟩

theorem row_at {α : Type} {f : α → List PV} {r : α} {l : List α} {k n : Nat} {C : List PV → Prop} (hn : n = l.length + 1) (hk : k < n) (h : ∀ x : α, (r :: l)[k]? = some x → C (f x)) : ∃ q, (f r :: List.map f l)[0 + k]? = some q ∧ C q := by
  obtain ⟨x, hx⟩ := getE (show k < (r :: l).length by simp; omega)
  refine ⟨f x, ?_, h x hx⟩
  rw [Nat.zero_add]
  show (List.map f (r :: l))[k]? = _
  rw [List.getElem?_map, hx]; rfl
def strRows : List (List PV) → Bool
  | [] => true
  | [.val (.string _)] :: l => strRows l
  | _ => false
theorem lits_ex : ∀ {L : List (List PV)} {k : Nat}, strRows L = true → k < L.length → ∃ x, L[k]? = some [es x]
  | [], k, _, h => by simp at h
  | r :: l, 0, h, _ => by
    unfold strRows at h
    split at h
    · rename_i heq; cases heq
    · rename_i heq; cases heq; exact ⟨_, rfl⟩
    · cases h
  | r :: l, k + 1, h, hk => by
    unfold strRows at h
    split at h
    · rename_i heq; cases heq
    · rename_i heq; cases heq
      obtain ⟨x, hx⟩ := lits_ex (L := l) (k := k) h (by simpa using hk)
      exact ⟨x, by simpa using hx⟩
    · cases h
theorem lits_load {L : List (List PV)} {k n : Nat} {C : List PV → Prop} (hn : n = L.length) (hk : k < n) (hL : strRows L = true) (h : ∀ x : Str, C [es x]) : ∃ r, L[0 + k]? = some r ∧ C r := by
  obtain ⟨x, hx⟩ := lits_ex hL (by omega : k < L.length)
  exact ⟨_, by rw [Nat.zero_add]; exact hx, h x⟩
theorem call_oddtime {t : List Int} {k : Nat} {H : Heap} {K : AV → Heap → Prop} (i : Nat) (x : Time) (hi : H[i]? = some (dice t k)) (ht : t.length ≤ 400) (hk : k ≤ t.length)
    (hK : ∀ y k2, k2 ≤ t.length → K (ag (Time.row y)) (H.set i (dice t k2))) : vcFun Tryz.prog 121 [.ptr i 2 0 0, ag x.row] H K := by
  refine call_one (i := i) hi (fun _ _ => rfl) [.ptr 0 2 0 0, ag x.row] rfl (c_oddtime t k ht hk x) ?_
  rintro r H' ⟨y, k', h1, rfl, rfl⟩
  exact ⟨_, rfl, fun _ _ => rfl, fun _ _ => rfl, hK y k' h1⟩

theorem set_at {α : Type} {f : α → List PV} {r : α} {l : List α} {k : Nat} (x : α) {q : List PV} {K : List (List PV) → Prop} (hq : q = f x) (h : K (List.map f ((r :: l).set k x))) : eqv ((f r :: List.map f l).set (0 + k) q) K :=
  ⟨_, by rw [hq, Nat.zero_add, List.map_set]; rfl, h⟩

theorem set_atm {α : Type} {f : α → List PV} {r : α} {l : List α} {k : Nat} {q : List AV} {K : List (List AV) → Prop} (h : K (((List.map f (r :: l)).map pvs).set k q)) : eqv ((List.map pvs (f r :: List.map f l)).set (0 + k) q) K :=
  ⟨_, by rw [Nat.zero_add]; rfl, h⟩
theorem rooms_whole {m : List Room} {n : Nat} (h : m.length = n) : ALe (.pv (.sl 5 (List.take n (List.drop 0 (List.map Room.row m))))) (.pv (encRooms m)) := by
  rw [List.drop_zero, List.take_of_length_le (by simp [h])]
  exact ALe.refl

theorem rooms_set {m : List Room} {n k : Nat} {q : List PV} (x : Room) (hq : q = x.row) (h : m.length = n) : ALe (.pv (.sl 5 (List.take n (List.drop 0 ((List.map Room.row m).set k q))))) (.pv (encRooms (m.set k x))) := by
  have : (List.map Room.row m).set k q = List.map Room.row (m.set k x) := by rw [hq, List.map_set]
  rw [this]
  exact rooms_whole (by rw [List.length_set, h])

theorem c_oddrooms0 (t : List Int) (k : Nat) (ht : t.length ≤ 400) (hk : k ≤ t.length) (l : List Room) (hl : l.length ≤ 1000) :
    ACall Tryz.prog 76 [.ptr 0 2 0 0, .pv (encRooms l)] [dice t k] (fun r H' => ∃ (m : List Room) (k' : Nat), k' ≤ t.length ∧ ALe r (.pv (encRooms m)) ∧ H' = [dice t k']) := by
  refine acall_of tok mixed 92 rfl (fn := Tryz.f76) (c := Tryz.f76.body.getD .skip) (by kernel_rfl) (by kernel_rfl) (by kernel_rfl) rfl 1 rfl ?_
  rcases l with _ | ⟨r, l⟩
  · repeat' (first | refine o1 ?_ | refine o2 ?_ | refine k1 ?_ | refine k2 ?_ | refine k3 ?_ | refine k7 ?_ | refine And.intro ?_ ?_ | (intro h; first | exact Bool.noConfusion h | exact nz _ h | exact nl h | (simp at h; done) | (simp at h; first | (exfalso; omega) | skip) | skip) | (refine (?_ : srcLen _ = rowsLen _); rfl) | exact Nat.le_of_ble_eq_true rfl | (change vcFun _ _ _ _ _; refine call_next 0 rfl (by assumption) (by assumption) (by omega) (by omega) ?_; intro v kq hv1 hv2 hkq) | fail)
    all_goals first
      | (exfalso; omega)
      | skip
    exact ret_conv [0] [dice t kq] rfl rfl ⟨rfl, trivial⟩ rfl (by repeat' (first | (show 0 + _ ≤ List.length _; simp))) rfl ⟨[⟨⟨#[82, 49]⟩, ⟨#[120]⟩, v, [], []⟩], kq, hkq, ALe.pv (PLe.sl ⟨⟨PLe.refl, PLe.refl, PLe.refl, PLe.nil, PLe.nil, trivial⟩, trivial⟩), rfl⟩
  · simp only [List.length_cons] at hl
    repeat' (first | (refine app_whole ?_) | (refine lit_idx (by assumption) (by assumption) (fun kx hkx => ?_)) | (refine lit_load rfl (by assumption) rfl (fun y => ?_)) | (refine lits_load rfl (by assumption) rfl (fun y => ?_)) | (refine row_at rfl (by assumption) (fun xr hxr => ?_)) | ((change vcFun _ _ _ _ _; refine call_oddtime 0 ⟨1, 0, 0, 1⟩ rfl (by assumption) (by assumption) ?_; intro yt kq hkq)) | (refine set_at (f := Room.row) ⟨y, xr.bld, xr.seats, xr.feats, xr.closed⟩ rfl ?_) | (refine set_at (f := Room.row) ⟨xr.code, ByteArray.mk #[], xr.seats, xr.feats, xr.closed⟩ rfl ?_) | (refine set_at (f := Room.row) ⟨xr.code, xr.bld, y, xr.feats, xr.closed⟩ rfl ?_) | (refine set_atm ?_) | (refine app_consm (f := Room.row) xr rfl ?_) | (refine join_to (a := .seq (.region 5 _ _) _) (fun x : Nat × List Room => [(5, .pv (encRooms x.2))]) (fun x => [dice t x.1]) (fun x => x.1 ≤ t.length) ?_) | refine o1 ?_ | refine o2 ?_ | refine k1 ?_ | refine k2 ?_ | refine k3 ?_ | refine k4 ?_ | refine k6 ?_ | refine And.intro ?_ ?_ | (intro h; first | exact Bool.noConfusion h | exact nz _ h | exact nl h | (simp at h; done) | (simp at h; first | (exfalso; omega) | skip) | skip) | (refine (?_ : srcLen _ = rowsLen _); rfl) | exact Nat.le_of_ble_eq_true rfl | (refine (?_ : _ ≤ 140737488355328); simp [rowsLen] <;> omega) | (refine (?_ : _ ≤ 9223372036854775807); simp [rowsLen] <;> omega) | (refine (?_ : _ = rowsLen _); simp [rowsLen] <;> omega) | (change vcFun _ _ _ _ _; refine call_next 0 rfl (by assumption) (by assumption) (by omega) (by omega) ?_; intro v kq hv1 hv2 hkq) | fail)
    all_goals first
      | (exfalso; omega)
      | exact ⟨(kq, _), hkq, Ghost.trans (Ghost.freeze (s := 5) rfl rfl (by repeat' (first | refine And.intro ?_ ?_ | (show 0 + _ ≤ List.length _; simp)))) (Ghost.trans (Ghost.weak (s := 5) rfl (rooms_whole (by rw [List.length_set]; rfl))) (back [0] rfl rfl ⟨rfl, trivial⟩ (by repeat' (first | exact trivial | exact rfl | refine And.intro ?_ ?_))))⟩
      | exact ⟨(kq, r :: (l ++ [xr])), hkq, Ghost.trans (Ghost.freeze (s := 5) rfl rfl (by repeat' (first | refine And.intro ?_ ?_ | (show 0 + _ ≤ List.length _; simp)))) (Ghost.trans (Ghost.weak (s := 5) rfl (rooms_whole (m := r :: (l ++ [xr])) (by simp))) (back [0] rfl rfl ⟨rfl, trivial⟩ (by repeat' (first | exact trivial | exact rfl | refine And.intro ?_ ?_))))⟩
      | (refine ⟨(kq, (r :: l).set kx ⟨xr.code, xr.bld, xr.seats, [⟨#[98]⟩, ⟨#[97]⟩], xr.closed⟩), hkq, Ghost.trans (Ghost.shutK (i := 1) (k := kx) (c := 3) (r := xr.row) (xs := List.map Room.row (r :: l)) (x := .ms 2 1 0 2) rfl ?_ rfl (Nat.le_of_ble_eq_true rfl) rfl (by repeat' (first | (show 0 + _ ≤ List.length _; simp))) ?_ ALe.refl) (Ghost.trans (Ghost.freeze (s := 5) rfl rfl (by repeat' (first | (show 0 + _ ≤ List.length _; simp)))) (Ghost.trans (Ghost.weak (s := 5) rfl (rooms_set ⟨xr.code, xr.bld, xr.seats, [⟨#[98]⟩, ⟨#[97]⟩], xr.closed⟩ rfl rfl)) (back [0] rfl rfl ⟨rfl, trivial⟩ (by repeat' (first | exact trivial | exact rfl | refine And.intro ?_ ?_)))))⟩
         · rw [List.getElem?_map, hxr]; rfl
         · show ¬ (1 ∈ ([2] : List Nat))
           decide)
      | (refine ⟨(kq, (r :: l).set kx ⟨xr.code, xr.bld, xr.seats, xr.feats, [yt]⟩), hkq, Ghost.trans (Ghost.shutK (i := 1) (k := kx) (c := 4) (r := xr.row) (xs := List.map Room.row (r :: l)) (x := .ms 2 4 0 1) rfl ?_ rfl (Nat.le_of_ble_eq_true rfl) rfl (by repeat' (first | (show 0 + _ ≤ List.length _; simp))) ?_ ALe.refl) (Ghost.trans (Ghost.freeze (s := 5) rfl rfl (by repeat' (first | (show 0 + _ ≤ List.length _; simp)))) (Ghost.trans (Ghost.weak (s := 5) rfl (rooms_set ⟨xr.code, xr.bld, xr.seats, xr.feats, [yt]⟩ rfl rfl)) (back [0] rfl rfl ⟨rfl, trivial⟩ (by repeat' (first | exact trivial | exact rfl | refine And.intro ?_ ?_)))))⟩
         · rw [List.getElem?_map, hxr]; rfl
         · show ¬ (1 ∈ ([2] : List Nat))
           decide)
      | skip
    · refine loop_to (fun x : Nat × List (List PV) => [(5, .ms 1 5 0 (x.2.length + 1)), (7, vint .i64 x.1)]) (fun x => [dice t kq, some ⟨72, 5, false, .p (r.row :: x.2)⟩])
        (fun x => x.1 ≤ 17 ∧ x.2.length ≤ 1000 + x.1 ∧ ∀ q ∈ x.2, roomR q) (fun x => 17 - x.1) (0, l.map Room.row) ⟨by simp, by simp; omega, fun q hq => by
          obtain ⟨x, _, rfl⟩ := List.mem_map.1 hq
          exact ⟨x, PLeL.refl⟩⟩ ?_ ?_
      · exact back [0, 1] rfl rfl ⟨rfl, rfl, trivial⟩ ⟨slot_eq rfl (congrArg (fun z => AV.ms 1 5 0 (z + 1)) (List.length_map ..).symm), rfl, by repeat' (first | exact trivial)⟩
      rintro ⟨i, rs⟩ ⟨c1, c2, c3⟩
      dsimp only at c1 c2 c3 ⊢
      rcases Nat.lt_or_ge i 17 with hi | hi
      · repeat' (first | (refine bytes_one (by omega) (by omega) rfl (fun s hs => ?_)) | ((show Nat.le (ByteArray.size _ + ByteArray.size _) _; rw [hs]; exact Nat.le_of_ble_eq_true rfl)) | (refine app_cons ?_) | refine o1 ?_ | refine o2 ?_ | refine k1 ?_ | refine k2 ?_ | refine k3 ?_ | refine k4 ?_ | refine k6 ?_ | refine And.intro ?_ ?_ | (intro h; first | exact Bool.noConfusion h | exact nz _ h | exact nl h | (simp at h; done) | (simp at h; first | (exfalso; omega) | skip) | skip) | (refine (?_ : srcLen _ = rowsLen _); rfl) | refine eqv_wrap (by omega) (by omega) ?_ | refine eqv_u8 (by omega) (by omega) ?_ | (refine (?_ : _ ≤ 140737488355328); simp [rowsLen] <;> omega) | (refine (?_ : _ ≤ 9223372036854775807); simp [rowsLen] <;> omega) | (refine (?_ : _ = rowsLen _); simp [rowsLen] <;> omega) | fail)
        exact ⟨(i + 1, rs ++ [_]), ⟨by show i + 1 ≤ 17; omega, by show List.length _ ≤ 1000 + (i + 1); simp; omega, fun q hq => by
          rcases mem_app hq with hq | hq
          · exact c3 q hq
          · subst hq; exact ⟨⟨_, ⟨#[120]⟩, 1, [], []⟩, PLe.refl, PLe.refl, PLe.refl, PLe.nil, PLe.nil, trivial⟩⟩, (by show 17 - (i + 1) < 17 - i; omega), back [0, 4] rfl rfl ⟨rfl, rfl, trivial⟩ (by repeat' (first | exact trivial | exact rfl | refine And.intro ?_ ?_))⟩
      · repeat' (first | refine o1 ?_ | refine o2 ?_ | refine k1 ?_ | refine k2 ?_ | refine k3 ?_ | refine k8 ?_ | refine And.intro ?_ ?_ | (intro h; first | exact Bool.noConfusion h | exact nz _ h | exact nl h | (simp at h; done) | (simp at h; first | (exfalso; omega) | skip) | skip) | fail)
        obtain ⟨m, hm, _⟩ := rooms_ex (rs := r.row :: rs) fun q hq => by
          rcases List.mem_cons.1 hq with rfl | hq
          · exact ⟨r, PLeL.refl⟩
          · exact c3 q hq
        refine ⟨(kq, m), hkq, Ghost.trans (Ghost.freeze (s := 5) rfl rfl (by repeat' (first | (show 0 + _ ≤ List.length _; simp)))) (Ghost.trans (Ghost.weak (s := 5) (y := .pv (encRooms m)) rfl (ALe.pv (PLe.sl ?_))) (back [0] rfl rfl ⟨rfl, trivial⟩ (by repeat' (first | exact trivial | exact rfl | refine And.intro ?_ ?_))))⟩
        rw [List.drop_zero, List.take_of_length_le (by simp)]
        exact hm
    refine ⟨?_⟩
    rintro ⟨k, m⟩ c1
    dsimp only at c1 ⊢
    repeat' (first | refine o1 ?_ | refine o2 ?_ | refine k1 ?_ | refine k2 ?_ | refine k7 ?_ | fail)
    exact ret_same [0] [dice t k] rfl rfl ⟨rfl, trivial⟩ rfl ⟨m, k, c1, ALe.refl, rfl⟩

theorem c_oddrooms (t : List Int) (k : Nat) (ht : t.length ≤ 400) (hk : k ≤ t.length) (l : List Room) (hl : l.length ≤ 1000) :
    ACall Tryz.prog 76 [.ptr 0 2 0 0, .pv (encRooms l)] [dice t k] (fun r H' => ∃ (m : List Room) (k' : Nat), k' ≤ t.length ∧ r = .pv (encRooms m) ∧ H' = [dice t k']) :=
  (c_oddrooms0 t k ht hk l hl).weak fun r H' ⟨m, k', h1, h2, h3⟩ => ⟨.pv (encRooms m), h2, m, k', h1, rfl, h3⟩
end Go.Proofs.YtpnghlibmpainaaGreat.Cw
