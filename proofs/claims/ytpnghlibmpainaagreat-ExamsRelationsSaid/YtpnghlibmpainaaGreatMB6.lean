/-
  What the laws of chapter 32 share.
-/
import Derived.Test.YtpnghlibmpainaaGreatMB5

/-
  Odd examinations.
-/
namespace Go.Proofs.YtpnghlibmpainaaGreat.Cw
open Go.Cw Go.Proofs
set_option linter.unusedVariables false
set_option maxRecDepth 100000
set_option maxHeartbeats 1600000

theorem call_oddrooms {t : List Int} {k : Nat} {H : Heap} {K : AV → Heap → Prop} (i : Nat) (l : List Room) (hi : H[i]? = some (dice t k)) (ht : t.length ≤ 400) (hk : k ≤ t.length) (hl : l.length ≤ 1000)
    (hK : ∀ m k2, k2 ≤ t.length → K (.pv (encRooms m)) (H.set i (dice t k2))) : vcFun Tryz.prog 76 [.ptr i 2 0 0, .pv (encRooms l)] H K := by
  refine call_one (i := i) hi (fun _ _ => rfl) [.ptr 0 2 0 0, .pv (encRooms l)] rfl (c_oddrooms t k ht hk l hl) ?_
  rintro r H' ⟨m, k', h1, rfl, rfl⟩
  exact ⟨_, rfl, fun _ _ => rfl, fun _ _ => rfl, hK m k' h1⟩
theorem app_map {α : Type} {f : α → List PV} {l : List α} {K : Go.Cw.Rows → Nat → Prop} (h : K (.p (List.map f l)) l.length) : eqv (Go.Cw.Rows.p (List.map f l)) fun rr => eqv (rowsLen rr) (K rr) :=
  ⟨_, rfl, _, by simp [rowsLen], h⟩
theorem app_mapm {α : Type} {f : α → List PV} (e : α) {l : List α} {x : List PV} (hx : x = f e) {K : Go.Cw.Rows → Nat → Prop} (h : K (.p (List.map f (l ++ [e]))) (l ++ [e]).length) : eqv (Go.Cw.Rows.p (List.drop 0 (List.map f l) ++ List.take 1 (List.drop 0 [x]))) fun rr => eqv (rowsLen rr) (K rr) :=
  ⟨_, by simp [hx], _, by simp [rowsLen], h⟩
theorem app_wholem {α : Type} {f : α → List PV} {e : α} {l : List α} {K : Go.Cw.Rows → Nat → Prop} (h : K (.p (f e :: l.map f)) ((l.map f).length + 1)) : eqv (Go.Cw.Rows.p (List.map f (e :: l))) fun rr => eqv (rowsLen rr) (K rr) :=
  ⟨_, rfl, _, by simp [rowsLen], h⟩
theorem sits_le {m : List Sitting} {n : Nat} (h : m.length = n) : ALe (.pv (.sl 4 (List.take n (List.drop 0 (List.map Sitting.row m))))) (.pv (.sl 4 (m.map Sitting.row))) := by
  rw [List.drop_zero, List.take_of_length_le (by simp [h])]
  exact ALe.refl
theorem lit4_load {α : Type} {a b c d : α} {k n : Nat} {C : α → Prop} (hn : n = 4) (hk : k < n) (ha : C a) (hb : C b) (hc : C c) (hd : C d) : ∃ r, [a, b, c, d][0 + k]? = some r ∧ C r := by
  subst hn
  match k, hk with
  | 0, _ => exact ⟨a, rfl, ha⟩
  | 1, _ => exact ⟨b, rfl, hb⟩
  | 2, _ => exact ⟨c, rfl, hc⟩
  | 3, _ => exact ⟨d, rfl, hd⟩
def xb (r e s : AV) (g : Gaps) : Option AObj := some ⟨33, 8, false, .box [r, e, s, vint .i64 g.row, vint .i64 g.day, vint .i64 g.near, vint .i64 g.days, vint .i64 g.mixed]⟩
def eb (c l f s : AV) : Option AObj := some ⟨69, 4, false, .box [c, l, f, s]⟩
def e0b : Option AObj := eb (.pv (es ⟨#[90]⟩)) (vint .i64 1) (.pv (encStrs [])) (.pv (encStrs [⟨#[115]⟩]))

theorem c_oddexamsN (t : List Int) (k : Nat) (ht : t.length ≤ 400) (hk : k ≤ t.length) (rs : List Room) (ss : List Sitting) (g : Gaps) (hr : rs.length ≤ 5) (hs : ss.length ≤ 5) :
    ACall Tryz.prog 37 [.ptr 0 2 0 0, ag (Exams.cells ⟨rs, [], ss, g⟩)] [dice t k] (fun r H' => ∃ (y : Exams) (k' : Nat), k' ≤ t.length ∧ (y.exams.length ≤ 6 ∧ y.sits.length ≤ 6) ∧ r = ag y.cells ∧ H' = [dice t k']) := by
  dsimp only [Exams.cells]
  refine acall_of tok mixed 114 rfl (fn := Tryz.f37) (c := Tryz.f37.body.getD .skip) (by kernel_rfl) (by kernel_rfl) (by kernel_rfl) rfl 1 rfl ?_
  rcases ss with _ | ⟨s0, ss⟩
  · repeat' (first | (refine app_wholem ?_) | (refine lit_idx (by assumption) (by assumption) (fun kx hkx => ?_)) | (refine lit_load rfl (by assumption) rfl (fun y => ?_)) | (refine lits_load rfl (by assumption) rfl (fun y => ?_)) | (refine lit4_load rfl (by assumption) ?_ ?_ ?_ ?_) | ((change vcFun _ _ _ _ _; refine call_oddrooms 0 rs rfl (by assumption) (by assumption) (by omega) ?_; intro rs2 kq hkq)) | (refine app_consm (f := Sitting.row) ⟨_, _, _, 0⟩ rfl ?_) | (refine ⟨0, rfl, Nat.succ_pos _, eqv_to 0 rfl ?_⟩) | (refine ⟨_, rfl, Nat.le_of_ble_eq_true rfl, eqv_rfl ?_⟩) | (refine join_to (a := .region 3 _ _) (fun _ : Unit => [(0, .ptr 0 2 0 0), (3, .ptr 1 8 0 0), (4, .ptr 2 8 0 0), (5, .ptr 5 4 0 0)]) (fun _ => [dice t k, xb (.pv (encRooms rs)) (slP 3 4 (List.map Exam.row ([]))) (slP 4 4 (List.map Sitting.row ([]))) g, zeroX, obP 69 4 (List.map Exam.row ([])), obP 23 4 (List.map Sitting.row ([])), e0b]) (fun _ => True) ?_) | refine o1 ?_ | refine o2 ?_ | refine k1 ?_ | refine k2 ?_ | refine k3 ?_ | refine k4 ?_ | refine k6 ?_ | refine k7 ?_ | refine k8 ?_ | refine And.intro ?_ ?_ | exact trivial | refine o3 ?_ | refine o4 ?_ | refine o5 ?_ | refine o6 ?_ | refine k5 ?_ | (intro h; first | exact Bool.noConfusion h | exact nz _ h | exact nl h | (simp at h; done) | (simp at h; first | (exfalso; omega) | skip) | skip) | (change retOk _ _ _ _; refine ret_pure rfl trivial ?_) | exact (rfl : allOne _ = true) | (refine (?_ : (0 : Int) ≤ _); omega) | (refine (?_ : _ ≠ _); omega) | (refine (?_ : srcLen _ = rowsLen _); rfl) | exact Nat.le_of_ble_eq_true rfl | exact (by kernel_rfl : drawOk _ _ = true) | refine eqv_len_map ?_ | refine eqv_size ?_ | refine eqv_put (eqv_ck ?_) | refine eqv_zero ?_ | refine eqv_wrap (by omega) (by omega) ?_ | refine eqv_u64 (by omega) (by omega) ?_ | refine eqv_u8 (by omega) (by omega) ?_ | refine eqv_to _ (set_map rfl rfl) ?_ | refine ⟨_, _, (by first | rfl | assumption), at_map (by assumption), ?_⟩ | refine ⟨_, _, (by first | rfl | assumption), (by assumption), ?_⟩ | refine ⟨_, at_map (by assumption), (by decide), ?_⟩ | refine ⟨_, at_map (by assumption), ?_⟩ | (refine (?_ : _ ≤ 140737488355328); simp [rowsLen] <;> omega) | (refine (?_ : _ ≤ 9223372036854775807); simp [rowsLen] <;> omega) | (refine (?_ : _ = rowsLen _); simp [rowsLen] <;> omega) | refine eqv_to _ (app_row rfl) (eqv_to _ app_len ?_) | refine eqv_to _ (app_first rfl) (eqv_to 1 rfl ?_) | refine idx_sl (at_map (by assumption)) (by omega) ?_ | refine idx_ms _ (by first | rfl | assumption) (by first | assumption | omega) ?_ | (change vcFun _ _ _ _ _; refine call_next 0 rfl (by assumption) (by assumption) (by omega) (by omega) ?_; intro v kq hv1 hv2 hkq) | (change vcFun _ _ _ _ _; refine call_one2 0 rfl (by assumption) (by assumption) (by omega) (by omega) ?_; intro bq kq hkq) | (change vcFunD _ _ _ _ _; refine callD_next 0 rfl (by assumption) (by assumption) (by omega) (by omega) ?_; intro v kq hv1 hv2 hkq) | (change vcFunD _ _ _ _ _; refine callD_one2 0 rfl (by assumption) (by assumption) (by omega) (by omega) ?_; intro bq kq hkq) | fail)
    · exact ⟨(), trivial, Ghost.trans (Ghost.shut (i := 6) (c := 3) (x := .ms 5 1 0 1) rfl rfl rfl (by repeat' (first | trivial | refine And.intro ?_ ?_ | (show 0 + _ ≤ List.length _; simp))) (show ¬ (6 ∈ ([5] : List Nat)) by decide) ALe.refl) (Ghost.trans (Ghost.shut (i := 6) (c := 2) (x := .pv (.val (.slice none 0 0))) rfl rfl rfl (by repeat' (first | trivial | refine And.intro ?_ ?_ | (show 0 + _ ≤ List.length _; simp))) (show ¬ (6 ∈ ([] : List Nat)) by decide) (ALe.pv PLe.nil)) (back [0, 1, 2, 3, 4, 6] rfl rfl ⟨rfl, rfl, rfl, rfl, trivial⟩ (by repeat' (first | exact trivial | exact rfl | exact ⟨_, rfl, ALe.refl⟩ | refine And.intro ?_ ?_))))⟩
    refine ⟨?_⟩
    rintro _ _
    dsimp only [xb, eb, e0b, slP, obP, zeroX, nilA, z0, List.map, List.length_cons, List.length_map]
    repeat' (first | (refine app_wholem ?_) | (refine lit_idx (by assumption) (by assumption) (fun kx hkx => ?_)) | (refine lit_load rfl (by assumption) rfl (fun y => ?_)) | (refine lits_load rfl (by assumption) rfl (fun y => ?_)) | (refine lit4_load rfl (by assumption) ?_ ?_ ?_ ?_) | ((change vcFun _ _ _ _ _; refine call_oddrooms 0 rs rfl (by assumption) (by assumption) (by omega) ?_; intro rs2 kq hkq)) | (refine app_consm (f := Sitting.row) ⟨_, _, _, 0⟩ rfl ?_) | (refine ⟨0, rfl, Nat.succ_pos _, eqv_to 0 rfl ?_⟩) | (refine ⟨_, rfl, Nat.le_of_ble_eq_true rfl, eqv_rfl ?_⟩) | (refine join_to (a := .seq (.region 4 _ _) _) (fun x : Nat × List Room × List Sitting × Gaps × Exam => [(0, .ptr 0 2 0 0), (3, .ptr 1 8 0 0), (4, .ptr 2 8 0 0), (5, .ptr 5 4 0 0)]) (fun x => [dice t x.1, xb (.pv (encRooms x.2.1)) (slP 3 4 (List.map Exam.row ([]))) (.pv (.sl 4 (x.2.2.1.map Sitting.row))) x.2.2.2.1, zeroX, obP 69 4 (List.map Exam.row ([])), none, eb (.pv (es x.2.2.2.2.code)) (vint .i64 x.2.2.2.2.len) (.pv (encStrs x.2.2.2.2.feats)) (.pv (encStrs x.2.2.2.2.studs))]) (fun x => x.1 ≤ t.length ∧ x.2.2.1.length ≤ 6) ?_) | refine o1 ?_ | refine o2 ?_ | refine k1 ?_ | refine k2 ?_ | refine k3 ?_ | refine k4 ?_ | refine k6 ?_ | refine k7 ?_ | refine k8 ?_ | refine And.intro ?_ ?_ | exact trivial | refine o3 ?_ | refine o4 ?_ | refine o5 ?_ | refine o6 ?_ | refine k5 ?_ | (intro h; first | exact Bool.noConfusion h | exact nz _ h | exact nl h | (simp at h; done) | (simp at h; first | (exfalso; omega) | skip) | skip) | (change retOk _ _ _ _; refine ret_pure rfl trivial ?_) | exact (rfl : allOne _ = true) | (refine (?_ : (0 : Int) ≤ _); omega) | (refine (?_ : _ ≠ _); omega) | (refine (?_ : srcLen _ = rowsLen _); rfl) | exact Nat.le_of_ble_eq_true rfl | exact (by kernel_rfl : drawOk _ _ = true) | refine eqv_len_map ?_ | refine eqv_size ?_ | refine eqv_put (eqv_ck ?_) | refine eqv_zero ?_ | refine eqv_wrap (by omega) (by omega) ?_ | refine eqv_u64 (by omega) (by omega) ?_ | refine eqv_u8 (by omega) (by omega) ?_ | refine eqv_to _ (set_map rfl rfl) ?_ | refine ⟨_, _, (by first | rfl | assumption), at_map (by assumption), ?_⟩ | refine ⟨_, _, (by first | rfl | assumption), (by assumption), ?_⟩ | refine ⟨_, at_map (by assumption), (by decide), ?_⟩ | refine ⟨_, at_map (by assumption), ?_⟩ | (refine (?_ : _ ≤ 140737488355328); simp [rowsLen] <;> omega) | (refine (?_ : _ ≤ 9223372036854775807); simp [rowsLen] <;> omega) | (refine (?_ : _ = rowsLen _); simp [rowsLen] <;> omega) | refine eqv_to _ (app_row rfl) (eqv_to _ app_len ?_) | refine eqv_to _ (app_first rfl) (eqv_to 1 rfl ?_) | refine idx_sl (at_map (by assumption)) (by omega) ?_ | refine idx_ms _ (by first | rfl | assumption) (by first | assumption | omega) ?_ | (change vcFun _ _ _ _ _; refine call_next 0 rfl (by assumption) (by assumption) (by omega) (by omega) ?_; intro v kq hv1 hv2 hkq) | (change vcFun _ _ _ _ _; refine call_one2 0 rfl (by assumption) (by assumption) (by omega) (by omega) ?_; intro bq kq hkq) | (change vcFunD _ _ _ _ _; refine callD_next 0 rfl (by assumption) (by assumption) (by omega) (by omega) ?_; intro v kq hv1 hv2 hkq) | (change vcFunD _ _ _ _ _; refine callD_one2 0 rfl (by assumption) (by assumption) (by omega) (by omega) ?_; intro bq kq hkq) | fail)
    · exact ⟨(kq, rs2, [], g, ⟨⟨#[90]⟩, 1, [], [⟨#[115]⟩]⟩), ⟨hkq, (by show List.length _ ≤ 6; simp; try omega)⟩, Ghost.trans (Ghost.shut (i := 1) (c := 2) (x := .pv (.val (.slice none 0 0))) rfl rfl rfl (by repeat' (first | trivial | refine And.intro ?_ ?_ | (show 0 + _ ≤ List.length _; simp))) (show ¬ (1 ∈ ([] : List Nat)) by decide) (ALe.pv PLe.nil)) (back [0, 1, 2, 3, 4, 5] rfl rfl ⟨rfl, rfl, rfl, rfl, trivial⟩ (by repeat' (first | exact trivial | exact rfl | exact ⟨_, rfl, ALe.refl⟩ | refine And.intro ?_ ?_)))⟩
    · exact ⟨(kq, rs, [], g, ⟨y, 1, [], [⟨#[115]⟩]⟩), ⟨hkq, (by show List.length _ ≤ 6; simp; try omega)⟩, Ghost.trans (Ghost.shut (i := 1) (c := 2) (x := .pv (.val (.slice none 0 0))) rfl rfl rfl (by repeat' (first | trivial | refine And.intro ?_ ?_ | (show 0 + _ ≤ List.length _; simp))) (show ¬ (1 ∈ ([] : List Nat)) by decide) (ALe.pv PLe.nil)) (back [0, 1, 2, 3, 4, 5] rfl rfl ⟨rfl, rfl, rfl, rfl, trivial⟩ (by repeat' (first | exact trivial | exact rfl | exact ⟨_, rfl, ALe.refl⟩ | refine And.intro ?_ ?_)))⟩
    · exact ⟨(kq, rs, [], g, ⟨⟨#[90]⟩, y, [], [⟨#[115]⟩]⟩), ⟨hkq, (by show List.length _ ≤ 6; simp; try omega)⟩, Ghost.trans (Ghost.shut (i := 1) (c := 2) (x := .pv (.val (.slice none 0 0))) rfl rfl rfl (by repeat' (first | trivial | refine And.intro ?_ ?_ | (show 0 + _ ≤ List.length _; simp))) (show ¬ (1 ∈ ([] : List Nat)) by decide) (ALe.pv PLe.nil)) (back [0, 1, 2, 3, 4, 5] rfl rfl ⟨rfl, rfl, rfl, rfl, trivial⟩ (by repeat' (first | exact trivial | exact rfl | exact ⟨_, rfl, ALe.refl⟩ | refine And.intro ?_ ?_)))⟩
    · exact ⟨(kq, rs, [], g, ⟨⟨#[90]⟩, 1, [], []⟩), ⟨hkq, (by show List.length _ ≤ 6; simp; try omega)⟩, Ghost.trans (Ghost.shut (i := 5) (c := 3) (x := .pv (.val (.slice none 0 0))) rfl rfl rfl (by repeat' (first | trivial | refine And.intro ?_ ?_ | (show 0 + _ ≤ List.length _; simp))) (show ¬ (5 ∈ ([] : List Nat)) by decide) (ALe.pv PLe.nil)) (Ghost.trans (Ghost.shut (i := 1) (c := 2) (x := .pv (.val (.slice none 0 0))) rfl rfl rfl (by repeat' (first | trivial | refine And.intro ?_ ?_ | (show 0 + _ ≤ List.length _; simp))) (show ¬ (1 ∈ ([] : List Nat)) by decide) (ALe.pv PLe.nil)) (back [0, 1, 2, 3, 4, 5] rfl rfl ⟨rfl, rfl, rfl, rfl, trivial⟩ (by repeat' (first | exact trivial | exact rfl | exact ⟨_, rfl, ALe.refl⟩ | refine And.intro ?_ ?_))))⟩
    · exact ⟨(kq, rs, [], g, ⟨⟨#[90]⟩, 1, [], [⟨#[98]⟩, ⟨#[97]⟩]⟩), ⟨hkq, (by show List.length _ ≤ 6; simp; try omega)⟩, Ghost.trans (Ghost.shut (i := 5) (c := 3) (x := .ms 6 1 0 2) rfl rfl rfl (by repeat' (first | trivial | refine And.intro ?_ ?_ | (show 0 + _ ≤ List.length _; simp))) (show ¬ (5 ∈ ([6] : List Nat)) by decide) (ALe.refl)) (Ghost.trans (Ghost.shut (i := 1) (c := 2) (x := .pv (.val (.slice none 0 0))) rfl rfl rfl (by repeat' (first | trivial | refine And.intro ?_ ?_ | (show 0 + _ ≤ List.length _; simp))) (show ¬ (1 ∈ ([] : List Nat)) by decide) (ALe.pv PLe.nil)) (back [0, 1, 2, 3, 4, 5] rfl rfl ⟨rfl, rfl, rfl, rfl, trivial⟩ (by repeat' (first | exact trivial | exact rfl | exact ⟨_, rfl, ALe.refl⟩ | refine And.intro ?_ ?_))))⟩
    · exact ⟨(kq, rs, [], g, ⟨⟨#[90]⟩, 1, [], [⟨#[97]⟩, ⟨#[97]⟩]⟩), ⟨hkq, (by show List.length _ ≤ 6; simp; try omega)⟩, Ghost.trans (Ghost.shut (i := 5) (c := 3) (x := .ms 7 1 0 2) rfl rfl rfl (by repeat' (first | trivial | refine And.intro ?_ ?_ | (show 0 + _ ≤ List.length _; simp))) (show ¬ (5 ∈ ([7] : List Nat)) by decide) (ALe.refl)) (Ghost.trans (Ghost.shut (i := 1) (c := 2) (x := .pv (.val (.slice none 0 0))) rfl rfl rfl (by repeat' (first | trivial | refine And.intro ?_ ?_ | (show 0 + _ ≤ List.length _; simp))) (show ¬ (1 ∈ ([] : List Nat)) by decide) (ALe.pv PLe.nil)) (back [0, 1, 2, 3, 4, 5] rfl rfl ⟨rfl, rfl, rfl, rfl, trivial⟩ (by repeat' (first | exact trivial | exact rfl | exact ⟨_, rfl, ALe.refl⟩ | refine And.intro ?_ ?_))))⟩
    · exact ⟨(kq, rs, [], g, ⟨⟨#[90]⟩, 1, [], [⟨#[]⟩]⟩), ⟨hkq, (by show List.length _ ≤ 6; simp; try omega)⟩, Ghost.trans (Ghost.shut (i := 5) (c := 3) (x := .ms 8 1 0 1) rfl rfl rfl (by repeat' (first | trivial | refine And.intro ?_ ?_ | (show 0 + _ ≤ List.length _; simp))) (show ¬ (5 ∈ ([8] : List Nat)) by decide) (ALe.refl)) (Ghost.trans (Ghost.shut (i := 1) (c := 2) (x := .pv (.val (.slice none 0 0))) rfl rfl rfl (by repeat' (first | trivial | refine And.intro ?_ ?_ | (show 0 + _ ≤ List.length _; simp))) (show ¬ (1 ∈ ([] : List Nat)) by decide) (ALe.pv PLe.nil)) (back [0, 1, 2, 3, 4, 5] rfl rfl ⟨rfl, rfl, rfl, rfl, trivial⟩ (by repeat' (first | exact trivial | exact rfl | exact ⟨_, rfl, ALe.refl⟩ | refine And.intro ?_ ?_))))⟩
    · exact ⟨(kq, rs, [], g, ⟨⟨#[90]⟩, 1, [⟨#[120]⟩, ⟨#[120]⟩], [⟨#[115]⟩]⟩), ⟨hkq, (by show List.length _ ≤ 6; simp; try omega)⟩, Ghost.trans (Ghost.shut (i := 5) (c := 2) (x := .ms 6 1 0 2) rfl rfl rfl (by repeat' (first | trivial | refine And.intro ?_ ?_ | (show 0 + _ ≤ List.length _; simp))) (show ¬ (5 ∈ ([6] : List Nat)) by decide) (ALe.refl)) (Ghost.trans (Ghost.shut (i := 1) (c := 2) (x := .pv (.val (.slice none 0 0))) rfl rfl rfl (by repeat' (first | trivial | refine And.intro ?_ ?_ | (show 0 + _ ≤ List.length _; simp))) (show ¬ (1 ∈ ([] : List Nat)) by decide) (ALe.pv PLe.nil)) (back [0, 1, 2, 3, 4, 5] rfl rfl ⟨rfl, rfl, rfl, rfl, trivial⟩ (by repeat' (first | exact trivial | exact rfl | exact ⟨_, rfl, ALe.refl⟩ | refine And.intro ?_ ?_))))⟩
    · exact ⟨(kq, rs, [⟨_, _, _, 0⟩], g, ⟨⟨#[90]⟩, 1, [], [⟨#[115]⟩]⟩), ⟨hkq, (by show List.length _ ≤ 6; simp; try omega)⟩, Ghost.trans (Ghost.shut (i := 1) (c := 2) (x := .ms 9 4 0 1) rfl rfl rfl (by repeat' (first | trivial | refine And.intro ?_ ?_ | (show 0 + _ ≤ List.length _; simp))) (show ¬ (1 ∈ ([9] : List Nat)) by decide) (ALe.refl)) (back [0, 1, 2, 3, 4, 5] rfl rfl ⟨rfl, rfl, rfl, rfl, trivial⟩ (by repeat' (first | exact trivial | exact rfl | exact ⟨_, rfl, ALe.refl⟩ | refine And.intro ?_ ?_)))⟩
    · exact ⟨(kq, rs, [], g, ⟨⟨#[90]⟩, 1, [], [⟨#[115]⟩]⟩), ⟨hkq, (by show List.length _ ≤ 6; simp; try omega)⟩, Ghost.trans (Ghost.shut (i := 1) (c := 2) (x := .pv (.val (.slice none 0 0))) rfl rfl rfl (by repeat' (first | trivial | refine And.intro ?_ ?_ | (show 0 + _ ≤ List.length _; simp))) (show ¬ (1 ∈ ([] : List Nat)) by decide) (ALe.pv PLe.nil)) (back [0, 1, 2, 3, 4, 5] rfl rfl ⟨rfl, rfl, rfl, rfl, trivial⟩ (by repeat' (first | exact trivial | exact rfl | exact ⟨_, rfl, ALe.refl⟩ | refine And.intro ?_ ?_)))⟩
    · exact ⟨(kq, rs, [], ⟨g.row, g.day, g.near, y, g.mixed⟩, ⟨⟨#[90]⟩, 1, [], [⟨#[115]⟩]⟩), ⟨hkq, (by show List.length _ ≤ 6; simp; try omega)⟩, Ghost.trans (Ghost.shut (i := 1) (c := 2) (x := .pv (.val (.slice none 0 0))) rfl rfl rfl (by repeat' (first | trivial | refine And.intro ?_ ?_ | (show 0 + _ ≤ List.length _; simp))) (show ¬ (1 ∈ ([] : List Nat)) by decide) (ALe.pv PLe.nil)) (back [0, 1, 2, 3, 4, 5] rfl rfl ⟨rfl, rfl, rfl, rfl, trivial⟩ (by repeat' (first | exact trivial | exact rfl | exact ⟨_, rfl, ALe.refl⟩ | refine And.intro ?_ ?_)))⟩
    · exact ⟨(kq, rs, [], ⟨y, g.day, g.near, g.days, g.mixed⟩, ⟨⟨#[90]⟩, 1, [], [⟨#[115]⟩]⟩), ⟨hkq, (by show List.length _ ≤ 6; simp; try omega)⟩, Ghost.trans (Ghost.shut (i := 1) (c := 2) (x := .pv (.val (.slice none 0 0))) rfl rfl rfl (by repeat' (first | trivial | refine And.intro ?_ ?_ | (show 0 + _ ≤ List.length _; simp))) (show ¬ (1 ∈ ([] : List Nat)) by decide) (ALe.pv PLe.nil)) (back [0, 1, 2, 3, 4, 5] rfl rfl ⟨rfl, rfl, rfl, rfl, trivial⟩ (by repeat' (first | exact trivial | exact rfl | exact ⟨_, rfl, ALe.refl⟩ | refine And.intro ?_ ?_)))⟩
    refine ⟨?_⟩
    rintro ⟨k, rs3, ss3, g3, e3⟩ ⟨c1, c2⟩
    dsimp only [xb, eb, e0b, slP, obP, zeroX, nilA, z0, List.map, List.length_cons, List.length_map] at c1 c2 ⊢
    repeat' (first | (refine app_consm (f := Exam.row) e3 rfl ?_) | (refine join_to (a := .region 23 _ _) (fun _ : Unit => [(3, .ptr 1 8 0 0), (4, .ptr 2 8 0 0)]) (fun _ => [dice t k, xb (.pv (encRooms rs3)) (.pv (.sl 4 (List.map Exam.row ([e3])))) (.pv (.sl 4 (ss3.map Sitting.row))) g3, zeroX]) (fun _ => True) ?_) | refine o1 ?_ | refine o2 ?_ | refine k1 ?_ | refine k2 ?_ | refine k3 ?_ | refine k4 ?_ | refine k6 ?_ | refine k7 ?_ | refine k8 ?_ | refine And.intro ?_ ?_ | exact trivial | refine o3 ?_ | refine o4 ?_ | refine o5 ?_ | refine o6 ?_ | refine k5 ?_ | (intro h; first | exact Bool.noConfusion h | exact nz _ h | exact nl h | (simp at h; done) | (simp at h; first | (exfalso; omega) | skip) | skip) | (change retOk _ _ _ _; refine ret_pure rfl trivial ?_) | exact (rfl : allOne _ = true) | (refine (?_ : (0 : Int) ≤ _); omega) | (refine (?_ : _ ≠ _); omega) | (refine (?_ : srcLen _ = rowsLen _); rfl) | exact Nat.le_of_ble_eq_true rfl | exact (by kernel_rfl : drawOk _ _ = true) | refine eqv_len_map ?_ | refine eqv_size ?_ | refine eqv_put (eqv_ck ?_) | refine eqv_zero ?_ | refine eqv_wrap (by omega) (by omega) ?_ | refine eqv_u64 (by omega) (by omega) ?_ | refine eqv_u8 (by omega) (by omega) ?_ | refine eqv_to _ (set_map rfl rfl) ?_ | refine ⟨_, _, (by first | rfl | assumption), at_map (by assumption), ?_⟩ | refine ⟨_, _, (by first | rfl | assumption), (by assumption), ?_⟩ | refine ⟨_, at_map (by assumption), (by decide), ?_⟩ | refine ⟨_, at_map (by assumption), ?_⟩ | (refine (?_ : _ ≤ 140737488355328); simp [rowsLen] <;> omega) | (refine (?_ : _ ≤ 9223372036854775807); simp [rowsLen] <;> omega) | (refine (?_ : _ = rowsLen _); simp [rowsLen] <;> omega) | refine eqv_to _ (app_row rfl) (eqv_to _ app_len ?_) | refine eqv_to _ (app_first rfl) (eqv_to 1 rfl ?_) | refine idx_sl (at_map (by assumption)) (by omega) ?_ | refine idx_ms _ (by first | rfl | assumption) (by first | assumption | omega) ?_ | fail)
    · exact ⟨(), trivial, Ghost.trans (Ghost.shut (i := 1) (c := 1) (x := .ms 7 4 0 1) rfl rfl rfl (by repeat' (first | trivial | refine And.intro ?_ ?_ | (show 0 + _ ≤ List.length _; simp))) (show ¬ (1 ∈ ([7] : List Nat)) by decide) (ALe.refl)) (back [0, 1, 2] rfl rfl ⟨rfl, rfl, rfl, trivial⟩ (by repeat' (first | exact trivial | exact rfl | exact ⟨_, rfl, ALe.refl⟩ | refine And.intro ?_ ?_)))⟩
    refine ⟨?_⟩
    rintro _ _
    dsimp only [xb, zeroX, nilA, z0]
    repeat' (first | refine o1 ?_ | refine o2 ?_ | refine k1 ?_ | refine k2 ?_ | refine k3 ?_ | refine k4 ?_ | refine k6 ?_ | refine k7 ?_ | refine k8 ?_ | refine And.intro ?_ ?_ | exact trivial | refine o3 ?_ | refine o4 ?_ | refine o5 ?_ | refine o6 ?_ | refine k5 ?_ | (intro h; first | exact Bool.noConfusion h | exact nz _ h | exact nl h | (simp at h; done) | (simp at h; first | (exfalso; omega) | skip) | skip) | (change retOk _ _ _ _; refine ret_pure rfl trivial ?_) | exact (rfl : allOne _ = true) | (refine (?_ : (0 : Int) ≤ _); omega) | (refine (?_ : _ ≠ _); omega) | (refine (?_ : srcLen _ = rowsLen _); rfl) | exact Nat.le_of_ble_eq_true rfl | exact (by kernel_rfl : drawOk _ _ = true) | refine eqv_len_map ?_ | refine eqv_size ?_ | refine eqv_put (eqv_ck ?_) | refine eqv_zero ?_ | refine eqv_wrap (by omega) (by omega) ?_ | refine eqv_u64 (by omega) (by omega) ?_ | refine eqv_u8 (by omega) (by omega) ?_ | refine eqv_to _ (set_map rfl rfl) ?_ | refine ⟨_, _, (by first | rfl | assumption), at_map (by assumption), ?_⟩ | refine ⟨_, _, (by first | rfl | assumption), (by assumption), ?_⟩ | refine ⟨_, at_map (by assumption), (by decide), ?_⟩ | refine ⟨_, at_map (by assumption), ?_⟩ | (refine (?_ : _ ≤ 140737488355328); simp [rowsLen] <;> omega) | (refine (?_ : _ ≤ 9223372036854775807); simp [rowsLen] <;> omega) | (refine (?_ : _ = rowsLen _); simp [rowsLen] <;> omega) | refine eqv_to _ (app_row rfl) (eqv_to _ app_len ?_) | refine eqv_to _ (app_first rfl) (eqv_to 1 rfl ?_) | refine idx_sl (at_map (by assumption)) (by omega) ?_ | refine idx_ms _ (by first | rfl | assumption) (by first | assumption | omega) ?_ | fail)
    exact ret_obj [0] [dice t k] rfl rfl ⟨rfl, trivial⟩ (r' := ag (Exams.cells ⟨rs3, [e3], ss3, g3⟩)) rfl ⟨⟨rs3, [e3], ss3, g3⟩, k, c1, ⟨by simp <;> omega, c2⟩, rfl, rfl⟩
  · simp only [List.length_cons] at hs
    repeat' (first | (refine app_wholem ?_) | (refine lit_idx (by assumption) (by assumption) (fun kx hkx => ?_)) | (refine lit_load rfl (by assumption) rfl (fun y => ?_)) | (refine lits_load rfl (by assumption) rfl (fun y => ?_)) | (refine lit4_load rfl (by assumption) ?_ ?_ ?_ ?_) | ((change vcFun _ _ _ _ _; refine call_oddrooms 0 rs rfl (by assumption) (by assumption) (by omega) ?_; intro rs2 kq hkq)) | (refine app_consm (f := Sitting.row) ⟨_, _, _, 0⟩ rfl ?_) | (refine ⟨0, rfl, Nat.succ_pos _, eqv_to 0 rfl ?_⟩) | (refine ⟨_, rfl, Nat.le_of_ble_eq_true rfl, eqv_rfl ?_⟩) | (refine join_to (a := .region 3 _ _) (fun _ : Unit => [(0, .ptr 0 2 0 0), (3, .ptr 1 8 0 0), (4, .ptr 2 8 0 0), (5, .ptr 5 4 0 0)]) (fun _ => [dice t k, xb (.pv (encRooms rs)) (slP 3 4 (List.map Exam.row ([]))) (slP 4 4 (List.map Sitting.row (s0 :: ss))) g, zeroX, obP 69 4 (List.map Exam.row ([])), obP 23 4 (List.map Sitting.row (s0 :: ss)), e0b]) (fun _ => True) ?_) | refine o1 ?_ | refine o2 ?_ | refine k1 ?_ | refine k2 ?_ | refine k3 ?_ | refine k4 ?_ | refine k6 ?_ | refine k7 ?_ | refine k8 ?_ | refine And.intro ?_ ?_ | exact trivial | refine o3 ?_ | refine o4 ?_ | refine o5 ?_ | refine o6 ?_ | refine k5 ?_ | (intro h; first | exact Bool.noConfusion h | exact nz _ h | exact nl h | (simp at h; done) | (simp at h; first | (exfalso; omega) | skip) | skip) | (change retOk _ _ _ _; refine ret_pure rfl trivial ?_) | exact (rfl : allOne _ = true) | (refine (?_ : (0 : Int) ≤ _); omega) | (refine (?_ : _ ≠ _); omega) | (refine (?_ : srcLen _ = rowsLen _); rfl) | exact Nat.le_of_ble_eq_true rfl | exact (by kernel_rfl : drawOk _ _ = true) | refine eqv_len_map ?_ | refine eqv_size ?_ | refine eqv_put (eqv_ck ?_) | refine eqv_zero ?_ | refine eqv_wrap (by omega) (by omega) ?_ | refine eqv_u64 (by omega) (by omega) ?_ | refine eqv_u8 (by omega) (by omega) ?_ | refine eqv_to _ (set_map rfl rfl) ?_ | refine ⟨_, _, (by first | rfl | assumption), at_map (by assumption), ?_⟩ | refine ⟨_, _, (by first | rfl | assumption), (by assumption), ?_⟩ | refine ⟨_, at_map (by assumption), (by decide), ?_⟩ | refine ⟨_, at_map (by assumption), ?_⟩ | (refine (?_ : _ ≤ 140737488355328); simp [rowsLen] <;> omega) | (refine (?_ : _ ≤ 9223372036854775807); simp [rowsLen] <;> omega) | (refine (?_ : _ = rowsLen _); simp [rowsLen] <;> omega) | refine eqv_to _ (app_row rfl) (eqv_to _ app_len ?_) | refine eqv_to _ (app_first rfl) (eqv_to 1 rfl ?_) | refine idx_sl (at_map (by assumption)) (by omega) ?_ | refine idx_ms _ (by first | rfl | assumption) (by first | assumption | omega) ?_ | (change vcFun _ _ _ _ _; refine call_next 0 rfl (by assumption) (by assumption) (by omega) (by omega) ?_; intro v kq hv1 hv2 hkq) | (change vcFun _ _ _ _ _; refine call_one2 0 rfl (by assumption) (by assumption) (by omega) (by omega) ?_; intro bq kq hkq) | (change vcFunD _ _ _ _ _; refine callD_next 0 rfl (by assumption) (by assumption) (by omega) (by omega) ?_; intro v kq hv1 hv2 hkq) | (change vcFunD _ _ _ _ _; refine callD_one2 0 rfl (by assumption) (by assumption) (by omega) (by omega) ?_; intro bq kq hkq) | fail)
    · exact ⟨(), trivial, Ghost.trans (Ghost.shut (i := 6) (c := 3) (x := .ms 5 1 0 1) rfl rfl rfl (by repeat' (first | trivial | refine And.intro ?_ ?_ | (show 0 + _ ≤ List.length _; simp))) (show ¬ (6 ∈ ([5] : List Nat)) by decide) ALe.refl) (Ghost.trans (Ghost.shut (i := 6) (c := 2) (x := .pv (.val (.slice none 0 0))) rfl rfl rfl (by repeat' (first | trivial | refine And.intro ?_ ?_ | (show 0 + _ ≤ List.length _; simp))) (show ¬ (6 ∈ ([] : List Nat)) by decide) (ALe.pv PLe.nil)) (back [0, 1, 2, 3, 4, 6] rfl rfl ⟨rfl, rfl, rfl, rfl, rfl, trivial⟩ (by repeat' (first | exact trivial | exact rfl | exact ⟨_, rfl, ALe.refl⟩ | refine And.intro ?_ ?_))))⟩
    refine ⟨?_⟩
    rintro _ _
    dsimp only [xb, eb, e0b, slP, obP, zeroX, nilA, z0, List.map, List.length_cons, List.length_map]
    repeat' (first | (refine app_wholem ?_) | (refine lit_idx (by assumption) (by assumption) (fun kx hkx => ?_)) | (refine lit_load rfl (by assumption) rfl (fun y => ?_)) | (refine lits_load rfl (by assumption) rfl (fun y => ?_)) | (refine lit4_load rfl (by assumption) ?_ ?_ ?_ ?_) | ((change vcFun _ _ _ _ _; refine call_oddrooms 0 rs rfl (by assumption) (by assumption) (by omega) ?_; intro rs2 kq hkq)) | (refine app_consm (f := Sitting.row) ⟨_, _, _, 0⟩ rfl ?_) | (refine ⟨0, rfl, Nat.succ_pos _, eqv_to 0 rfl ?_⟩) | (refine ⟨_, rfl, Nat.le_of_ble_eq_true rfl, eqv_rfl ?_⟩) | (refine join_to (a := .seq (.region 4 _ _) _) (fun x : Nat × List Room × List Sitting × Gaps × Exam => [(0, .ptr 0 2 0 0), (3, .ptr 1 8 0 0), (4, .ptr 2 8 0 0), (5, .ptr 5 4 0 0)]) (fun x => [dice t x.1, xb (.pv (encRooms x.2.1)) (slP 3 4 (List.map Exam.row ([]))) (.pv (.sl 4 (x.2.2.1.map Sitting.row))) x.2.2.2.1, zeroX, obP 69 4 (List.map Exam.row ([])), none, eb (.pv (es x.2.2.2.2.code)) (vint .i64 x.2.2.2.2.len) (.pv (encStrs x.2.2.2.2.feats)) (.pv (encStrs x.2.2.2.2.studs))]) (fun x => x.1 ≤ t.length ∧ x.2.2.1.length ≤ 6) ?_) | refine o1 ?_ | refine o2 ?_ | refine k1 ?_ | refine k2 ?_ | refine k3 ?_ | refine k4 ?_ | refine k6 ?_ | refine k7 ?_ | refine k8 ?_ | refine And.intro ?_ ?_ | exact trivial | refine o3 ?_ | refine o4 ?_ | refine o5 ?_ | refine o6 ?_ | refine k5 ?_ | (intro h; first | exact Bool.noConfusion h | exact nz _ h | exact nl h | (simp at h; done) | (simp at h; first | (exfalso; omega) | skip) | skip) | (change retOk _ _ _ _; refine ret_pure rfl trivial ?_) | exact (rfl : allOne _ = true) | (refine (?_ : (0 : Int) ≤ _); omega) | (refine (?_ : _ ≠ _); omega) | (refine (?_ : srcLen _ = rowsLen _); rfl) | exact Nat.le_of_ble_eq_true rfl | exact (by kernel_rfl : drawOk _ _ = true) | refine eqv_len_map ?_ | refine eqv_size ?_ | refine eqv_put (eqv_ck ?_) | refine eqv_zero ?_ | refine eqv_wrap (by omega) (by omega) ?_ | refine eqv_u64 (by omega) (by omega) ?_ | refine eqv_u8 (by omega) (by omega) ?_ | refine eqv_to _ (set_map rfl rfl) ?_ | refine ⟨_, _, (by first | rfl | assumption), at_map (by assumption), ?_⟩ | refine ⟨_, _, (by first | rfl | assumption), (by assumption), ?_⟩ | refine ⟨_, at_map (by assumption), (by decide), ?_⟩ | refine ⟨_, at_map (by assumption), ?_⟩ | (refine (?_ : _ ≤ 140737488355328); simp [rowsLen] <;> omega) | (refine (?_ : _ ≤ 9223372036854775807); simp [rowsLen] <;> omega) | (refine (?_ : _ = rowsLen _); simp [rowsLen] <;> omega) | refine eqv_to _ (app_row rfl) (eqv_to _ app_len ?_) | refine eqv_to _ (app_first rfl) (eqv_to 1 rfl ?_) | refine idx_sl (at_map (by assumption)) (by omega) ?_ | refine idx_ms _ (by first | rfl | assumption) (by first | assumption | omega) ?_ | (change vcFun _ _ _ _ _; refine call_next 0 rfl (by assumption) (by assumption) (by omega) (by omega) ?_; intro v kq hv1 hv2 hkq) | (change vcFun _ _ _ _ _; refine call_one2 0 rfl (by assumption) (by assumption) (by omega) (by omega) ?_; intro bq kq hkq) | (change vcFunD _ _ _ _ _; refine callD_next 0 rfl (by assumption) (by assumption) (by omega) (by omega) ?_; intro v kq hv1 hv2 hkq) | (change vcFunD _ _ _ _ _; refine callD_one2 0 rfl (by assumption) (by assumption) (by omega) (by omega) ?_; intro bq kq hkq) | fail)
    · exact ⟨(kq, rs2, s0 :: ss, g, ⟨⟨#[90]⟩, 1, [], [⟨#[115]⟩]⟩), ⟨hkq, (by show List.length _ ≤ 6; simp; try omega)⟩, Ghost.trans (Ghost.shut (i := 1) (c := 2) (x := .ms 4 4 0 ((List.map Sitting.row ss).length + 1)) rfl rfl rfl (by repeat' (first | trivial | refine And.intro ?_ ?_ | (show 0 + _ ≤ List.length _; simp))) (show ¬ (1 ∈ ([4] : List Nat)) by decide) (sits_le (m := s0 :: ss) (by simp))) (back [0, 1, 2, 3, 4, 5] rfl rfl ⟨rfl, rfl, rfl, rfl, trivial⟩ (by repeat' (first | exact trivial | exact rfl | exact ⟨_, rfl, ALe.refl⟩ | refine And.intro ?_ ?_)))⟩
    · exact ⟨(kq, rs, s0 :: ss, g, ⟨y, 1, [], [⟨#[115]⟩]⟩), ⟨hkq, (by show List.length _ ≤ 6; simp; try omega)⟩, Ghost.trans (Ghost.shut (i := 1) (c := 2) (x := .ms 4 4 0 ((List.map Sitting.row ss).length + 1)) rfl rfl rfl (by repeat' (first | trivial | refine And.intro ?_ ?_ | (show 0 + _ ≤ List.length _; simp))) (show ¬ (1 ∈ ([4] : List Nat)) by decide) (sits_le (m := s0 :: ss) (by simp))) (back [0, 1, 2, 3, 4, 5] rfl rfl ⟨rfl, rfl, rfl, rfl, trivial⟩ (by repeat' (first | exact trivial | exact rfl | exact ⟨_, rfl, ALe.refl⟩ | refine And.intro ?_ ?_)))⟩
    · exact ⟨(kq, rs, s0 :: ss, g, ⟨⟨#[90]⟩, y, [], [⟨#[115]⟩]⟩), ⟨hkq, (by show List.length _ ≤ 6; simp; try omega)⟩, Ghost.trans (Ghost.shut (i := 1) (c := 2) (x := .ms 4 4 0 ((List.map Sitting.row ss).length + 1)) rfl rfl rfl (by repeat' (first | trivial | refine And.intro ?_ ?_ | (show 0 + _ ≤ List.length _; simp))) (show ¬ (1 ∈ ([4] : List Nat)) by decide) (sits_le (m := s0 :: ss) (by simp))) (back [0, 1, 2, 3, 4, 5] rfl rfl ⟨rfl, rfl, rfl, rfl, trivial⟩ (by repeat' (first | exact trivial | exact rfl | exact ⟨_, rfl, ALe.refl⟩ | refine And.intro ?_ ?_)))⟩
    · exact ⟨(kq, rs, s0 :: ss, g, ⟨⟨#[90]⟩, 1, [], []⟩), ⟨hkq, (by show List.length _ ≤ 6; simp; try omega)⟩, Ghost.trans (Ghost.shut (i := 5) (c := 3) (x := .pv (.val (.slice none 0 0))) rfl rfl rfl (by repeat' (first | trivial | refine And.intro ?_ ?_ | (show 0 + _ ≤ List.length _; simp))) (show ¬ (5 ∈ ([] : List Nat)) by decide) (ALe.pv PLe.nil)) (Ghost.trans (Ghost.shut (i := 1) (c := 2) (x := .ms 4 4 0 ((List.map Sitting.row ss).length + 1)) rfl rfl rfl (by repeat' (first | trivial | refine And.intro ?_ ?_ | (show 0 + _ ≤ List.length _; simp))) (show ¬ (1 ∈ ([4] : List Nat)) by decide) (sits_le (m := s0 :: ss) (by simp))) (back [0, 1, 2, 3, 4, 5] rfl rfl ⟨rfl, rfl, rfl, rfl, trivial⟩ (by repeat' (first | exact trivial | exact rfl | exact ⟨_, rfl, ALe.refl⟩ | refine And.intro ?_ ?_))))⟩
    · exact ⟨(kq, rs, s0 :: ss, g, ⟨⟨#[90]⟩, 1, [], [⟨#[98]⟩, ⟨#[97]⟩]⟩), ⟨hkq, (by show List.length _ ≤ 6; simp; try omega)⟩, Ghost.trans (Ghost.shut (i := 5) (c := 3) (x := .ms 6 1 0 2) rfl rfl rfl (by repeat' (first | trivial | refine And.intro ?_ ?_ | (show 0 + _ ≤ List.length _; simp))) (show ¬ (5 ∈ ([6] : List Nat)) by decide) (ALe.refl)) (Ghost.trans (Ghost.shut (i := 1) (c := 2) (x := .ms 4 4 0 ((List.map Sitting.row ss).length + 1)) rfl rfl rfl (by repeat' (first | trivial | refine And.intro ?_ ?_ | (show 0 + _ ≤ List.length _; simp))) (show ¬ (1 ∈ ([4] : List Nat)) by decide) (sits_le (m := s0 :: ss) (by simp))) (back [0, 1, 2, 3, 4, 5] rfl rfl ⟨rfl, rfl, rfl, rfl, trivial⟩ (by repeat' (first | exact trivial | exact rfl | exact ⟨_, rfl, ALe.refl⟩ | refine And.intro ?_ ?_))))⟩
    · exact ⟨(kq, rs, s0 :: ss, g, ⟨⟨#[90]⟩, 1, [], [⟨#[97]⟩, ⟨#[97]⟩]⟩), ⟨hkq, (by show List.length _ ≤ 6; simp; try omega)⟩, Ghost.trans (Ghost.shut (i := 5) (c := 3) (x := .ms 7 1 0 2) rfl rfl rfl (by repeat' (first | trivial | refine And.intro ?_ ?_ | (show 0 + _ ≤ List.length _; simp))) (show ¬ (5 ∈ ([7] : List Nat)) by decide) (ALe.refl)) (Ghost.trans (Ghost.shut (i := 1) (c := 2) (x := .ms 4 4 0 ((List.map Sitting.row ss).length + 1)) rfl rfl rfl (by repeat' (first | trivial | refine And.intro ?_ ?_ | (show 0 + _ ≤ List.length _; simp))) (show ¬ (1 ∈ ([4] : List Nat)) by decide) (sits_le (m := s0 :: ss) (by simp))) (back [0, 1, 2, 3, 4, 5] rfl rfl ⟨rfl, rfl, rfl, rfl, trivial⟩ (by repeat' (first | exact trivial | exact rfl | exact ⟨_, rfl, ALe.refl⟩ | refine And.intro ?_ ?_))))⟩
    · exact ⟨(kq, rs, s0 :: ss, g, ⟨⟨#[90]⟩, 1, [], [⟨#[]⟩]⟩), ⟨hkq, (by show List.length _ ≤ 6; simp; try omega)⟩, Ghost.trans (Ghost.shut (i := 5) (c := 3) (x := .ms 8 1 0 1) rfl rfl rfl (by repeat' (first | trivial | refine And.intro ?_ ?_ | (show 0 + _ ≤ List.length _; simp))) (show ¬ (5 ∈ ([8] : List Nat)) by decide) (ALe.refl)) (Ghost.trans (Ghost.shut (i := 1) (c := 2) (x := .ms 4 4 0 ((List.map Sitting.row ss).length + 1)) rfl rfl rfl (by repeat' (first | trivial | refine And.intro ?_ ?_ | (show 0 + _ ≤ List.length _; simp))) (show ¬ (1 ∈ ([4] : List Nat)) by decide) (sits_le (m := s0 :: ss) (by simp))) (back [0, 1, 2, 3, 4, 5] rfl rfl ⟨rfl, rfl, rfl, rfl, trivial⟩ (by repeat' (first | exact trivial | exact rfl | exact ⟨_, rfl, ALe.refl⟩ | refine And.intro ?_ ?_))))⟩
    · exact ⟨(kq, rs, s0 :: ss, g, ⟨⟨#[90]⟩, 1, [⟨#[120]⟩, ⟨#[120]⟩], [⟨#[115]⟩]⟩), ⟨hkq, (by show List.length _ ≤ 6; simp; try omega)⟩, Ghost.trans (Ghost.shut (i := 5) (c := 2) (x := .ms 6 1 0 2) rfl rfl rfl (by repeat' (first | trivial | refine And.intro ?_ ?_ | (show 0 + _ ≤ List.length _; simp))) (show ¬ (5 ∈ ([6] : List Nat)) by decide) (ALe.refl)) (Ghost.trans (Ghost.shut (i := 1) (c := 2) (x := .ms 4 4 0 ((List.map Sitting.row ss).length + 1)) rfl rfl rfl (by repeat' (first | trivial | refine And.intro ?_ ?_ | (show 0 + _ ≤ List.length _; simp))) (show ¬ (1 ∈ ([4] : List Nat)) by decide) (sits_le (m := s0 :: ss) (by simp))) (back [0, 1, 2, 3, 4, 5] rfl rfl ⟨rfl, rfl, rfl, rfl, trivial⟩ (by repeat' (first | exact trivial | exact rfl | exact ⟨_, rfl, ALe.refl⟩ | refine And.intro ?_ ?_))))⟩
    · exact ⟨(kq, rs, s0 :: (ss ++ [⟨_, _, _, 0⟩]), g, ⟨⟨#[90]⟩, 1, [], [⟨#[115]⟩]⟩), ⟨hkq, (by show List.length _ ≤ 6; simp; try omega)⟩, Ghost.trans (Ghost.shut (i := 1) (c := 2) (x := .ms 9 4 0 ((List.map Sitting.row (ss ++ [_])).length + 1)) rfl rfl rfl (by repeat' (first | trivial | refine And.intro ?_ ?_ | (show 0 + _ ≤ List.length _; simp))) (show ¬ (1 ∈ ([9] : List Nat)) by decide) (sits_le (m := s0 :: (ss ++ [_])) (by simp))) (back [0, 1, 2, 3, 4, 5] rfl rfl ⟨rfl, rfl, rfl, rfl, trivial⟩ (by repeat' (first | exact trivial | exact rfl | exact ⟨_, rfl, ALe.refl⟩ | refine And.intro ?_ ?_)))⟩
    · exact ⟨(kq, rs, ⟨s0.day, s0.start, s0.len, y⟩ :: ss, g, ⟨⟨#[90]⟩, 1, [], [⟨#[115]⟩]⟩), ⟨hkq, (by show List.length _ ≤ 6; simp; try omega)⟩, Ghost.trans (Ghost.shut (i := 1) (c := 2) (x := .ms 4 4 0 ((List.map Sitting.row ss).length + 1)) rfl rfl rfl (by repeat' (first | trivial | refine And.intro ?_ ?_ | (show 0 + _ ≤ List.length _; simp))) (show ¬ (1 ∈ ([4] : List Nat)) by decide) (sits_le (m := ⟨s0.day, s0.start, s0.len, y⟩ :: ss) (by simp))) (back [0, 1, 2, 3, 4, 5] rfl rfl ⟨rfl, rfl, rfl, rfl, trivial⟩ (by repeat' (first | exact trivial | exact rfl | exact ⟨_, rfl, ALe.refl⟩ | refine And.intro ?_ ?_)))⟩
    · exact ⟨(kq, rs, s0 :: ss, ⟨g.row, g.day, g.near, y, g.mixed⟩, ⟨⟨#[90]⟩, 1, [], [⟨#[115]⟩]⟩), ⟨hkq, (by show List.length _ ≤ 6; simp; try omega)⟩, Ghost.trans (Ghost.shut (i := 1) (c := 2) (x := .ms 4 4 0 ((List.map Sitting.row ss).length + 1)) rfl rfl rfl (by repeat' (first | trivial | refine And.intro ?_ ?_ | (show 0 + _ ≤ List.length _; simp))) (show ¬ (1 ∈ ([4] : List Nat)) by decide) (sits_le (m := s0 :: ss) (by simp))) (back [0, 1, 2, 3, 4, 5] rfl rfl ⟨rfl, rfl, rfl, rfl, trivial⟩ (by repeat' (first | exact trivial | exact rfl | exact ⟨_, rfl, ALe.refl⟩ | refine And.intro ?_ ?_)))⟩
    · exact ⟨(kq, rs, s0 :: ss, ⟨y, g.day, g.near, g.days, g.mixed⟩, ⟨⟨#[90]⟩, 1, [], [⟨#[115]⟩]⟩), ⟨hkq, (by show List.length _ ≤ 6; simp; try omega)⟩, Ghost.trans (Ghost.shut (i := 1) (c := 2) (x := .ms 4 4 0 ((List.map Sitting.row ss).length + 1)) rfl rfl rfl (by repeat' (first | trivial | refine And.intro ?_ ?_ | (show 0 + _ ≤ List.length _; simp))) (show ¬ (1 ∈ ([4] : List Nat)) by decide) (sits_le (m := s0 :: ss) (by simp))) (back [0, 1, 2, 3, 4, 5] rfl rfl ⟨rfl, rfl, rfl, rfl, trivial⟩ (by repeat' (first | exact trivial | exact rfl | exact ⟨_, rfl, ALe.refl⟩ | refine And.intro ?_ ?_)))⟩
    refine ⟨?_⟩
    rintro ⟨k, rs3, ss3, g3, e3⟩ ⟨c1, c2⟩
    dsimp only [xb, eb, e0b, slP, obP, zeroX, nilA, z0, List.map, List.length_cons, List.length_map] at c1 c2 ⊢
    repeat' (first | (refine app_consm (f := Exam.row) e3 rfl ?_) | (refine join_to (a := .region 23 _ _) (fun _ : Unit => [(3, .ptr 1 8 0 0), (4, .ptr 2 8 0 0)]) (fun _ => [dice t k, xb (.pv (encRooms rs3)) (.pv (.sl 4 (List.map Exam.row ([e3])))) (.pv (.sl 4 (ss3.map Sitting.row))) g3, zeroX]) (fun _ => True) ?_) | refine o1 ?_ | refine o2 ?_ | refine k1 ?_ | refine k2 ?_ | refine k3 ?_ | refine k4 ?_ | refine k6 ?_ | refine k7 ?_ | refine k8 ?_ | refine And.intro ?_ ?_ | exact trivial | refine o3 ?_ | refine o4 ?_ | refine o5 ?_ | refine o6 ?_ | refine k5 ?_ | (intro h; first | exact Bool.noConfusion h | exact nz _ h | exact nl h | (simp at h; done) | (simp at h; first | (exfalso; omega) | skip) | skip) | (change retOk _ _ _ _; refine ret_pure rfl trivial ?_) | exact (rfl : allOne _ = true) | (refine (?_ : (0 : Int) ≤ _); omega) | (refine (?_ : _ ≠ _); omega) | (refine (?_ : srcLen _ = rowsLen _); rfl) | exact Nat.le_of_ble_eq_true rfl | exact (by kernel_rfl : drawOk _ _ = true) | refine eqv_len_map ?_ | refine eqv_size ?_ | refine eqv_put (eqv_ck ?_) | refine eqv_zero ?_ | refine eqv_wrap (by omega) (by omega) ?_ | refine eqv_u64 (by omega) (by omega) ?_ | refine eqv_u8 (by omega) (by omega) ?_ | refine eqv_to _ (set_map rfl rfl) ?_ | refine ⟨_, _, (by first | rfl | assumption), at_map (by assumption), ?_⟩ | refine ⟨_, _, (by first | rfl | assumption), (by assumption), ?_⟩ | refine ⟨_, at_map (by assumption), (by decide), ?_⟩ | refine ⟨_, at_map (by assumption), ?_⟩ | (refine (?_ : _ ≤ 140737488355328); simp [rowsLen] <;> omega) | (refine (?_ : _ ≤ 9223372036854775807); simp [rowsLen] <;> omega) | (refine (?_ : _ = rowsLen _); simp [rowsLen] <;> omega) | refine eqv_to _ (app_row rfl) (eqv_to _ app_len ?_) | refine eqv_to _ (app_first rfl) (eqv_to 1 rfl ?_) | refine idx_sl (at_map (by assumption)) (by omega) ?_ | refine idx_ms _ (by first | rfl | assumption) (by first | assumption | omega) ?_ | fail)
    · exact ⟨(), trivial, Ghost.trans (Ghost.shut (i := 1) (c := 1) (x := .ms 7 4 0 1) rfl rfl rfl (by repeat' (first | trivial | refine And.intro ?_ ?_ | (show 0 + _ ≤ List.length _; simp))) (show ¬ (1 ∈ ([7] : List Nat)) by decide) (ALe.refl)) (back [0, 1, 2] rfl rfl ⟨rfl, rfl, rfl, trivial⟩ (by repeat' (first | exact trivial | exact rfl | exact ⟨_, rfl, ALe.refl⟩ | refine And.intro ?_ ?_)))⟩
    refine ⟨?_⟩
    rintro _ _
    dsimp only [xb, zeroX, nilA, z0]
    repeat' (first | refine o1 ?_ | refine o2 ?_ | refine k1 ?_ | refine k2 ?_ | refine k3 ?_ | refine k4 ?_ | refine k6 ?_ | refine k7 ?_ | refine k8 ?_ | refine And.intro ?_ ?_ | exact trivial | refine o3 ?_ | refine o4 ?_ | refine o5 ?_ | refine o6 ?_ | refine k5 ?_ | (intro h; first | exact Bool.noConfusion h | exact nz _ h | exact nl h | (simp at h; done) | (simp at h; first | (exfalso; omega) | skip) | skip) | (change retOk _ _ _ _; refine ret_pure rfl trivial ?_) | exact (rfl : allOne _ = true) | (refine (?_ : (0 : Int) ≤ _); omega) | (refine (?_ : _ ≠ _); omega) | (refine (?_ : srcLen _ = rowsLen _); rfl) | exact Nat.le_of_ble_eq_true rfl | exact (by kernel_rfl : drawOk _ _ = true) | refine eqv_len_map ?_ | refine eqv_size ?_ | refine eqv_put (eqv_ck ?_) | refine eqv_zero ?_ | refine eqv_wrap (by omega) (by omega) ?_ | refine eqv_u64 (by omega) (by omega) ?_ | refine eqv_u8 (by omega) (by omega) ?_ | refine eqv_to _ (set_map rfl rfl) ?_ | refine ⟨_, _, (by first | rfl | assumption), at_map (by assumption), ?_⟩ | refine ⟨_, _, (by first | rfl | assumption), (by assumption), ?_⟩ | refine ⟨_, at_map (by assumption), (by decide), ?_⟩ | refine ⟨_, at_map (by assumption), ?_⟩ | (refine (?_ : _ ≤ 140737488355328); simp [rowsLen] <;> omega) | (refine (?_ : _ ≤ 9223372036854775807); simp [rowsLen] <;> omega) | (refine (?_ : _ = rowsLen _); simp [rowsLen] <;> omega) | refine eqv_to _ (app_row rfl) (eqv_to _ app_len ?_) | refine eqv_to _ (app_first rfl) (eqv_to 1 rfl ?_) | refine idx_sl (at_map (by assumption)) (by omega) ?_ | refine idx_ms _ (by first | rfl | assumption) (by first | assumption | omega) ?_ | fail)
    exact ret_obj [0] [dice t k] rfl rfl ⟨rfl, trivial⟩ (r' := ag (Exams.cells ⟨rs3, [e3], ss3, g3⟩)) rfl ⟨⟨rs3, [e3], ss3, g3⟩, k, c1, ⟨by simp <;> omega, c2⟩, rfl, rfl⟩
theorem c_oddexamsC (t : List Int) (k : Nat) (ht : t.length ≤ 400) (hk : k ≤ t.length) (rs : List Room) (e1 : Exam) (el : List Exam) (ss : List Sitting) (g : Gaps) (hr : rs.length ≤ 5) (he : (e1 :: el).length ≤ 5) (hs : ss.length ≤ 5) :
    ACall Tryz.prog 37 [.ptr 0 2 0 0, ag (Exams.cells ⟨rs, e1 :: el, ss, g⟩)] [dice t k] (fun r H' => ∃ (y : Exams) (k' : Nat), k' ≤ t.length ∧ (y.exams.length ≤ 6 ∧ y.sits.length ≤ 6) ∧ r = ag y.cells ∧ H' = [dice t k']) := by
  dsimp only [Exams.cells]
  simp only [List.length_cons] at he
  refine acall_of tok mixed 114 rfl (fn := Tryz.f37) (c := Tryz.f37.body.getD .skip) (by kernel_rfl) (by kernel_rfl) (by kernel_rfl) rfl 1 rfl ?_
  rcases ss with _ | ⟨s0, ss⟩
  · repeat' (first | (refine app_wholem ?_) | (refine lit_idx (by assumption) (by assumption) (fun kx hkx => ?_)) | (refine lit_load rfl (by assumption) rfl (fun y => ?_)) | (refine lits_load rfl (by assumption) rfl (fun y => ?_)) | (refine lit4_load rfl (by assumption) ?_ ?_ ?_ ?_) | ((change vcFun _ _ _ _ _; refine call_oddrooms 0 rs rfl (by assumption) (by assumption) (by omega) ?_; intro rs2 kq hkq)) | (refine app_consm (f := Sitting.row) ⟨_, _, _, 0⟩ rfl ?_) | (refine ⟨0, rfl, Nat.succ_pos _, eqv_to 0 rfl ?_⟩) | (refine ⟨_, rfl, Nat.le_of_ble_eq_true rfl, eqv_rfl ?_⟩) | (refine join_to (a := .region 3 _ _) (fun _ : Unit => [(0, .ptr 0 2 0 0), (3, .ptr 1 8 0 0), (4, .ptr 2 8 0 0), (5, .ptr 5 4 0 0)]) (fun _ => [dice t k, xb (.pv (encRooms rs)) (slP 3 4 (List.map Exam.row (e1 :: el))) (slP 4 4 (List.map Sitting.row ([]))) g, zeroX, obP 69 4 (List.map Exam.row (e1 :: el)), obP 23 4 (List.map Sitting.row ([])), e0b]) (fun _ => True) ?_) | refine o1 ?_ | refine o2 ?_ | refine k1 ?_ | refine k2 ?_ | refine k3 ?_ | refine k4 ?_ | refine k6 ?_ | refine k7 ?_ | refine k8 ?_ | refine And.intro ?_ ?_ | exact trivial | refine o3 ?_ | refine o4 ?_ | refine o5 ?_ | refine o6 ?_ | refine k5 ?_ | (intro h; first | exact Bool.noConfusion h | exact nz _ h | exact nl h | (simp at h; done) | (simp at h; first | (exfalso; omega) | skip) | skip) | (change retOk _ _ _ _; refine ret_pure rfl trivial ?_) | exact (rfl : allOne _ = true) | (refine (?_ : (0 : Int) ≤ _); omega) | (refine (?_ : _ ≠ _); omega) | (refine (?_ : srcLen _ = rowsLen _); rfl) | exact Nat.le_of_ble_eq_true rfl | exact (by kernel_rfl : drawOk _ _ = true) | refine eqv_len_map ?_ | refine eqv_size ?_ | refine eqv_put (eqv_ck ?_) | refine eqv_zero ?_ | refine eqv_wrap (by omega) (by omega) ?_ | refine eqv_u64 (by omega) (by omega) ?_ | refine eqv_u8 (by omega) (by omega) ?_ | refine eqv_to _ (set_map rfl rfl) ?_ | refine ⟨_, _, (by first | rfl | assumption), at_map (by assumption), ?_⟩ | refine ⟨_, _, (by first | rfl | assumption), (by assumption), ?_⟩ | refine ⟨_, at_map (by assumption), (by decide), ?_⟩ | refine ⟨_, at_map (by assumption), ?_⟩ | (refine (?_ : _ ≤ 140737488355328); simp [rowsLen] <;> omega) | (refine (?_ : _ ≤ 9223372036854775807); simp [rowsLen] <;> omega) | (refine (?_ : _ = rowsLen _); simp [rowsLen] <;> omega) | refine eqv_to _ (app_row rfl) (eqv_to _ app_len ?_) | refine eqv_to _ (app_first rfl) (eqv_to 1 rfl ?_) | refine idx_sl (at_map (by assumption)) (by omega) ?_ | refine idx_ms _ (by first | rfl | assumption) (by first | assumption | omega) ?_ | (change vcFun _ _ _ _ _; refine call_next 0 rfl (by assumption) (by assumption) (by omega) (by omega) ?_; intro v kq hv1 hv2 hkq) | (change vcFun _ _ _ _ _; refine call_one2 0 rfl (by assumption) (by assumption) (by omega) (by omega) ?_; intro bq kq hkq) | (change vcFunD _ _ _ _ _; refine callD_next 0 rfl (by assumption) (by assumption) (by omega) (by omega) ?_; intro v kq hv1 hv2 hkq) | (change vcFunD _ _ _ _ _; refine callD_one2 0 rfl (by assumption) (by assumption) (by omega) (by omega) ?_; intro bq kq hkq) | fail)
    · exact ⟨(), trivial, Ghost.trans (Ghost.shut (i := 6) (c := 3) (x := .ms 5 1 0 1) rfl rfl rfl (by repeat' (first | trivial | refine And.intro ?_ ?_ | (show 0 + _ ≤ List.length _; simp))) (show ¬ (6 ∈ ([5] : List Nat)) by decide) ALe.refl) (Ghost.trans (Ghost.shut (i := 6) (c := 2) (x := .pv (.val (.slice none 0 0))) rfl rfl rfl (by repeat' (first | trivial | refine And.intro ?_ ?_ | (show 0 + _ ≤ List.length _; simp))) (show ¬ (6 ∈ ([] : List Nat)) by decide) (ALe.pv PLe.nil)) (back [0, 1, 2, 3, 4, 6] rfl rfl ⟨rfl, rfl, rfl, rfl, rfl, trivial⟩ (by repeat' (first | exact trivial | exact rfl | exact ⟨_, rfl, ALe.refl⟩ | refine And.intro ?_ ?_))))⟩
    refine ⟨?_⟩
    rintro _ _
    dsimp only [xb, eb, e0b, slP, obP, zeroX, nilA, z0, List.map, List.length_cons, List.length_map]
    repeat' (first | (refine app_wholem ?_) | (refine lit_idx (by assumption) (by assumption) (fun kx hkx => ?_)) | (refine lit_load rfl (by assumption) rfl (fun y => ?_)) | (refine lits_load rfl (by assumption) rfl (fun y => ?_)) | (refine lit4_load rfl (by assumption) ?_ ?_ ?_ ?_) | ((change vcFun _ _ _ _ _; refine call_oddrooms 0 rs rfl (by assumption) (by assumption) (by omega) ?_; intro rs2 kq hkq)) | (refine app_consm (f := Sitting.row) ⟨_, _, _, 0⟩ rfl ?_) | (refine ⟨0, rfl, Nat.succ_pos _, eqv_to 0 rfl ?_⟩) | (refine ⟨_, rfl, Nat.le_of_ble_eq_true rfl, eqv_rfl ?_⟩) | (refine join_to (a := .seq (.region 4 _ _) _) (fun x : Nat × List Room × List Sitting × Gaps × Exam => [(0, .ptr 0 2 0 0), (3, .ptr 1 8 0 0), (4, .ptr 2 8 0 0), (5, .ptr 5 4 0 0)]) (fun x => [dice t x.1, xb (.pv (encRooms x.2.1)) (slP 3 4 (List.map Exam.row (e1 :: el))) (.pv (.sl 4 (x.2.2.1.map Sitting.row))) x.2.2.2.1, zeroX, obP 69 4 (List.map Exam.row (e1 :: el)), none, eb (.pv (es x.2.2.2.2.code)) (vint .i64 x.2.2.2.2.len) (.pv (encStrs x.2.2.2.2.feats)) (.pv (encStrs x.2.2.2.2.studs))]) (fun x => x.1 ≤ t.length ∧ x.2.2.1.length ≤ 6) ?_) | refine o1 ?_ | refine o2 ?_ | refine k1 ?_ | refine k2 ?_ | refine k3 ?_ | refine k4 ?_ | refine k6 ?_ | refine k7 ?_ | refine k8 ?_ | refine And.intro ?_ ?_ | exact trivial | refine o3 ?_ | refine o4 ?_ | refine o5 ?_ | refine o6 ?_ | refine k5 ?_ | (intro h; first | exact Bool.noConfusion h | exact nz _ h | exact nl h | (simp at h; done) | (simp at h; first | (exfalso; omega) | skip) | skip) | (change retOk _ _ _ _; refine ret_pure rfl trivial ?_) | exact (rfl : allOne _ = true) | (refine (?_ : (0 : Int) ≤ _); omega) | (refine (?_ : _ ≠ _); omega) | (refine (?_ : srcLen _ = rowsLen _); rfl) | exact Nat.le_of_ble_eq_true rfl | exact (by kernel_rfl : drawOk _ _ = true) | refine eqv_len_map ?_ | refine eqv_size ?_ | refine eqv_put (eqv_ck ?_) | refine eqv_zero ?_ | refine eqv_wrap (by omega) (by omega) ?_ | refine eqv_u64 (by omega) (by omega) ?_ | refine eqv_u8 (by omega) (by omega) ?_ | refine eqv_to _ (set_map rfl rfl) ?_ | refine ⟨_, _, (by first | rfl | assumption), at_map (by assumption), ?_⟩ | refine ⟨_, _, (by first | rfl | assumption), (by assumption), ?_⟩ | refine ⟨_, at_map (by assumption), (by decide), ?_⟩ | refine ⟨_, at_map (by assumption), ?_⟩ | (refine (?_ : _ ≤ 140737488355328); simp [rowsLen] <;> omega) | (refine (?_ : _ ≤ 9223372036854775807); simp [rowsLen] <;> omega) | (refine (?_ : _ = rowsLen _); simp [rowsLen] <;> omega) | refine eqv_to _ (app_row rfl) (eqv_to _ app_len ?_) | refine eqv_to _ (app_first rfl) (eqv_to 1 rfl ?_) | refine idx_sl (at_map (by assumption)) (by omega) ?_ | refine idx_ms _ (by first | rfl | assumption) (by first | assumption | omega) ?_ | (change vcFun _ _ _ _ _; refine call_next 0 rfl (by assumption) (by assumption) (by omega) (by omega) ?_; intro v kq hv1 hv2 hkq) | (change vcFun _ _ _ _ _; refine call_one2 0 rfl (by assumption) (by assumption) (by omega) (by omega) ?_; intro bq kq hkq) | (change vcFunD _ _ _ _ _; refine callD_next 0 rfl (by assumption) (by assumption) (by omega) (by omega) ?_; intro v kq hv1 hv2 hkq) | (change vcFunD _ _ _ _ _; refine callD_one2 0 rfl (by assumption) (by assumption) (by omega) (by omega) ?_; intro bq kq hkq) | fail)
    · exact ⟨(kq, rs2, [], g, ⟨⟨#[90]⟩, 1, [], [⟨#[115]⟩]⟩), ⟨hkq, (by show List.length _ ≤ 6; simp; try omega)⟩, Ghost.trans (Ghost.shut (i := 1) (c := 2) (x := .pv (.val (.slice none 0 0))) rfl rfl rfl (by repeat' (first | trivial | refine And.intro ?_ ?_ | (show 0 + _ ≤ List.length _; simp))) (show ¬ (1 ∈ ([] : List Nat)) by decide) (ALe.pv PLe.nil)) (back [0, 1, 2, 3, 4, 5] rfl rfl ⟨rfl, rfl, rfl, rfl, rfl, trivial⟩ (by repeat' (first | exact trivial | exact rfl | exact ⟨_, rfl, ALe.refl⟩ | refine And.intro ?_ ?_)))⟩
    · exact ⟨(kq, rs, [], g, ⟨y, 1, [], [⟨#[115]⟩]⟩), ⟨hkq, (by show List.length _ ≤ 6; simp; try omega)⟩, Ghost.trans (Ghost.shut (i := 1) (c := 2) (x := .pv (.val (.slice none 0 0))) rfl rfl rfl (by repeat' (first | trivial | refine And.intro ?_ ?_ | (show 0 + _ ≤ List.length _; simp))) (show ¬ (1 ∈ ([] : List Nat)) by decide) (ALe.pv PLe.nil)) (back [0, 1, 2, 3, 4, 5] rfl rfl ⟨rfl, rfl, rfl, rfl, rfl, trivial⟩ (by repeat' (first | exact trivial | exact rfl | exact ⟨_, rfl, ALe.refl⟩ | refine And.intro ?_ ?_)))⟩
    · exact ⟨(kq, rs, [], g, ⟨⟨#[90]⟩, y, [], [⟨#[115]⟩]⟩), ⟨hkq, (by show List.length _ ≤ 6; simp; try omega)⟩, Ghost.trans (Ghost.shut (i := 1) (c := 2) (x := .pv (.val (.slice none 0 0))) rfl rfl rfl (by repeat' (first | trivial | refine And.intro ?_ ?_ | (show 0 + _ ≤ List.length _; simp))) (show ¬ (1 ∈ ([] : List Nat)) by decide) (ALe.pv PLe.nil)) (back [0, 1, 2, 3, 4, 5] rfl rfl ⟨rfl, rfl, rfl, rfl, rfl, trivial⟩ (by repeat' (first | exact trivial | exact rfl | exact ⟨_, rfl, ALe.refl⟩ | refine And.intro ?_ ?_)))⟩
    · exact ⟨(kq, rs, [], g, ⟨⟨#[90]⟩, 1, [], []⟩), ⟨hkq, (by show List.length _ ≤ 6; simp; try omega)⟩, Ghost.trans (Ghost.shut (i := 5) (c := 3) (x := .pv (.val (.slice none 0 0))) rfl rfl rfl (by repeat' (first | trivial | refine And.intro ?_ ?_ | (show 0 + _ ≤ List.length _; simp))) (show ¬ (5 ∈ ([] : List Nat)) by decide) (ALe.pv PLe.nil)) (Ghost.trans (Ghost.shut (i := 1) (c := 2) (x := .pv (.val (.slice none 0 0))) rfl rfl rfl (by repeat' (first | trivial | refine And.intro ?_ ?_ | (show 0 + _ ≤ List.length _; simp))) (show ¬ (1 ∈ ([] : List Nat)) by decide) (ALe.pv PLe.nil)) (back [0, 1, 2, 3, 4, 5] rfl rfl ⟨rfl, rfl, rfl, rfl, rfl, trivial⟩ (by repeat' (first | exact trivial | exact rfl | exact ⟨_, rfl, ALe.refl⟩ | refine And.intro ?_ ?_))))⟩
    · exact ⟨(kq, rs, [], g, ⟨⟨#[90]⟩, 1, [], [⟨#[98]⟩, ⟨#[97]⟩]⟩), ⟨hkq, (by show List.length _ ≤ 6; simp; try omega)⟩, Ghost.trans (Ghost.shut (i := 5) (c := 3) (x := .ms 6 1 0 2) rfl rfl rfl (by repeat' (first | trivial | refine And.intro ?_ ?_ | (show 0 + _ ≤ List.length _; simp))) (show ¬ (5 ∈ ([6] : List Nat)) by decide) (ALe.refl)) (Ghost.trans (Ghost.shut (i := 1) (c := 2) (x := .pv (.val (.slice none 0 0))) rfl rfl rfl (by repeat' (first | trivial | refine And.intro ?_ ?_ | (show 0 + _ ≤ List.length _; simp))) (show ¬ (1 ∈ ([] : List Nat)) by decide) (ALe.pv PLe.nil)) (back [0, 1, 2, 3, 4, 5] rfl rfl ⟨rfl, rfl, rfl, rfl, rfl, trivial⟩ (by repeat' (first | exact trivial | exact rfl | exact ⟨_, rfl, ALe.refl⟩ | refine And.intro ?_ ?_))))⟩
    · exact ⟨(kq, rs, [], g, ⟨⟨#[90]⟩, 1, [], [⟨#[97]⟩, ⟨#[97]⟩]⟩), ⟨hkq, (by show List.length _ ≤ 6; simp; try omega)⟩, Ghost.trans (Ghost.shut (i := 5) (c := 3) (x := .ms 7 1 0 2) rfl rfl rfl (by repeat' (first | trivial | refine And.intro ?_ ?_ | (show 0 + _ ≤ List.length _; simp))) (show ¬ (5 ∈ ([7] : List Nat)) by decide) (ALe.refl)) (Ghost.trans (Ghost.shut (i := 1) (c := 2) (x := .pv (.val (.slice none 0 0))) rfl rfl rfl (by repeat' (first | trivial | refine And.intro ?_ ?_ | (show 0 + _ ≤ List.length _; simp))) (show ¬ (1 ∈ ([] : List Nat)) by decide) (ALe.pv PLe.nil)) (back [0, 1, 2, 3, 4, 5] rfl rfl ⟨rfl, rfl, rfl, rfl, rfl, trivial⟩ (by repeat' (first | exact trivial | exact rfl | exact ⟨_, rfl, ALe.refl⟩ | refine And.intro ?_ ?_))))⟩
    · exact ⟨(kq, rs, [], g, ⟨⟨#[90]⟩, 1, [], [⟨#[]⟩]⟩), ⟨hkq, (by show List.length _ ≤ 6; simp; try omega)⟩, Ghost.trans (Ghost.shut (i := 5) (c := 3) (x := .ms 8 1 0 1) rfl rfl rfl (by repeat' (first | trivial | refine And.intro ?_ ?_ | (show 0 + _ ≤ List.length _; simp))) (show ¬ (5 ∈ ([8] : List Nat)) by decide) (ALe.refl)) (Ghost.trans (Ghost.shut (i := 1) (c := 2) (x := .pv (.val (.slice none 0 0))) rfl rfl rfl (by repeat' (first | trivial | refine And.intro ?_ ?_ | (show 0 + _ ≤ List.length _; simp))) (show ¬ (1 ∈ ([] : List Nat)) by decide) (ALe.pv PLe.nil)) (back [0, 1, 2, 3, 4, 5] rfl rfl ⟨rfl, rfl, rfl, rfl, rfl, trivial⟩ (by repeat' (first | exact trivial | exact rfl | exact ⟨_, rfl, ALe.refl⟩ | refine And.intro ?_ ?_))))⟩
    · exact ⟨(kq, rs, [], g, ⟨⟨#[90]⟩, 1, [⟨#[120]⟩, ⟨#[120]⟩], [⟨#[115]⟩]⟩), ⟨hkq, (by show List.length _ ≤ 6; simp; try omega)⟩, Ghost.trans (Ghost.shut (i := 5) (c := 2) (x := .ms 6 1 0 2) rfl rfl rfl (by repeat' (first | trivial | refine And.intro ?_ ?_ | (show 0 + _ ≤ List.length _; simp))) (show ¬ (5 ∈ ([6] : List Nat)) by decide) (ALe.refl)) (Ghost.trans (Ghost.shut (i := 1) (c := 2) (x := .pv (.val (.slice none 0 0))) rfl rfl rfl (by repeat' (first | trivial | refine And.intro ?_ ?_ | (show 0 + _ ≤ List.length _; simp))) (show ¬ (1 ∈ ([] : List Nat)) by decide) (ALe.pv PLe.nil)) (back [0, 1, 2, 3, 4, 5] rfl rfl ⟨rfl, rfl, rfl, rfl, rfl, trivial⟩ (by repeat' (first | exact trivial | exact rfl | exact ⟨_, rfl, ALe.refl⟩ | refine And.intro ?_ ?_))))⟩
    · exact ⟨(kq, rs, [⟨_, _, _, 0⟩], g, ⟨⟨#[90]⟩, 1, [], [⟨#[115]⟩]⟩), ⟨hkq, (by show List.length _ ≤ 6; simp; try omega)⟩, Ghost.trans (Ghost.shut (i := 1) (c := 2) (x := .ms 9 4 0 1) rfl rfl rfl (by repeat' (first | trivial | refine And.intro ?_ ?_ | (show 0 + _ ≤ List.length _; simp))) (show ¬ (1 ∈ ([9] : List Nat)) by decide) (ALe.refl)) (back [0, 1, 2, 3, 4, 5] rfl rfl ⟨rfl, rfl, rfl, rfl, rfl, trivial⟩ (by repeat' (first | exact trivial | exact rfl | exact ⟨_, rfl, ALe.refl⟩ | refine And.intro ?_ ?_)))⟩
    · exact ⟨(kq, rs, [], g, ⟨⟨#[90]⟩, 1, [], [⟨#[115]⟩]⟩), ⟨hkq, (by show List.length _ ≤ 6; simp; try omega)⟩, Ghost.trans (Ghost.shut (i := 1) (c := 2) (x := .pv (.val (.slice none 0 0))) rfl rfl rfl (by repeat' (first | trivial | refine And.intro ?_ ?_ | (show 0 + _ ≤ List.length _; simp))) (show ¬ (1 ∈ ([] : List Nat)) by decide) (ALe.pv PLe.nil)) (back [0, 1, 2, 3, 4, 5] rfl rfl ⟨rfl, rfl, rfl, rfl, rfl, trivial⟩ (by repeat' (first | exact trivial | exact rfl | exact ⟨_, rfl, ALe.refl⟩ | refine And.intro ?_ ?_)))⟩
    · exact ⟨(kq, rs, [], ⟨g.row, g.day, g.near, y, g.mixed⟩, ⟨⟨#[90]⟩, 1, [], [⟨#[115]⟩]⟩), ⟨hkq, (by show List.length _ ≤ 6; simp; try omega)⟩, Ghost.trans (Ghost.shut (i := 1) (c := 2) (x := .pv (.val (.slice none 0 0))) rfl rfl rfl (by repeat' (first | trivial | refine And.intro ?_ ?_ | (show 0 + _ ≤ List.length _; simp))) (show ¬ (1 ∈ ([] : List Nat)) by decide) (ALe.pv PLe.nil)) (back [0, 1, 2, 3, 4, 5] rfl rfl ⟨rfl, rfl, rfl, rfl, rfl, trivial⟩ (by repeat' (first | exact trivial | exact rfl | exact ⟨_, rfl, ALe.refl⟩ | refine And.intro ?_ ?_)))⟩
    · exact ⟨(kq, rs, [], ⟨y, g.day, g.near, g.days, g.mixed⟩, ⟨⟨#[90]⟩, 1, [], [⟨#[115]⟩]⟩), ⟨hkq, (by show List.length _ ≤ 6; simp; try omega)⟩, Ghost.trans (Ghost.shut (i := 1) (c := 2) (x := .pv (.val (.slice none 0 0))) rfl rfl rfl (by repeat' (first | trivial | refine And.intro ?_ ?_ | (show 0 + _ ≤ List.length _; simp))) (show ¬ (1 ∈ ([] : List Nat)) by decide) (ALe.pv PLe.nil)) (back [0, 1, 2, 3, 4, 5] rfl rfl ⟨rfl, rfl, rfl, rfl, rfl, trivial⟩ (by repeat' (first | exact trivial | exact rfl | exact ⟨_, rfl, ALe.refl⟩ | refine And.intro ?_ ?_)))⟩
    refine ⟨?_⟩
    rintro ⟨k, rs3, ss3, g3, e3⟩ ⟨c1, c2⟩
    dsimp only [xb, eb, e0b, slP, obP, zeroX, nilA, z0, List.map, List.length_cons, List.length_map] at c1 c2 ⊢
    repeat' (first | (refine app_consm (f := Exam.row) e3 rfl ?_) | (refine join_to (a := .region 23 _ _) (fun _ : Unit => [(3, .ptr 1 8 0 0), (4, .ptr 2 8 0 0)]) (fun _ => [dice t k, xb (.pv (encRooms rs3)) (.pv (.sl 4 (List.map Exam.row ((e1 :: el) ++ [e3])))) (.pv (.sl 4 (ss3.map Sitting.row))) g3, zeroX]) (fun _ => True) ?_) | refine o1 ?_ | refine o2 ?_ | refine k1 ?_ | refine k2 ?_ | refine k3 ?_ | refine k4 ?_ | refine k6 ?_ | refine k7 ?_ | refine k8 ?_ | refine And.intro ?_ ?_ | exact trivial | refine o3 ?_ | refine o4 ?_ | refine o5 ?_ | refine o6 ?_ | refine k5 ?_ | (intro h; first | exact Bool.noConfusion h | exact nz _ h | exact nl h | (simp at h; done) | (simp at h; first | (exfalso; omega) | skip) | skip) | (change retOk _ _ _ _; refine ret_pure rfl trivial ?_) | exact (rfl : allOne _ = true) | (refine (?_ : (0 : Int) ≤ _); omega) | (refine (?_ : _ ≠ _); omega) | (refine (?_ : srcLen _ = rowsLen _); rfl) | exact Nat.le_of_ble_eq_true rfl | exact (by kernel_rfl : drawOk _ _ = true) | refine eqv_len_map ?_ | refine eqv_size ?_ | refine eqv_put (eqv_ck ?_) | refine eqv_zero ?_ | refine eqv_wrap (by omega) (by omega) ?_ | refine eqv_u64 (by omega) (by omega) ?_ | refine eqv_u8 (by omega) (by omega) ?_ | refine eqv_to _ (set_map rfl rfl) ?_ | refine ⟨_, _, (by first | rfl | assumption), at_map (by assumption), ?_⟩ | refine ⟨_, _, (by first | rfl | assumption), (by assumption), ?_⟩ | refine ⟨_, at_map (by assumption), (by decide), ?_⟩ | refine ⟨_, at_map (by assumption), ?_⟩ | (refine (?_ : _ ≤ 140737488355328); simp [rowsLen] <;> omega) | (refine (?_ : _ ≤ 9223372036854775807); simp [rowsLen] <;> omega) | (refine (?_ : _ = rowsLen _); simp [rowsLen] <;> omega) | refine eqv_to _ (app_row rfl) (eqv_to _ app_len ?_) | refine eqv_to _ (app_first rfl) (eqv_to 1 rfl ?_) | refine idx_sl (at_map (by assumption)) (by omega) ?_ | refine idx_ms _ (by first | rfl | assumption) (by first | assumption | omega) ?_ | fail)
    · refine ⟨(), trivial, Ghost.trans (Ghost.shut (i := 1) (c := 1) (x := .ms 7 4 0 ((List.map Exam.row (el ++ [e3])).length + 1)) rfl rfl rfl (by repeat' (first | trivial | refine And.intro ?_ ?_ | (show 0 + _ ≤ List.length _; simp))) (show ¬ (1 ∈ ([7] : List Nat)) by decide) (ALe.pv (PLe.sl (?_ : PLeLL _ (List.map Exam.row ((e1 :: el) ++ [e3])))))) (back [0, 1, 2] rfl rfl ⟨rfl, rfl, rfl, trivial⟩ (by repeat' (first | exact trivial | exact rfl | exact ⟨_, rfl, ALe.refl⟩ | refine And.intro ?_ ?_)))⟩
      rw [List.drop_zero, List.take_of_length_le (by simp)]
      exact PLeLL.refl
    refine ⟨?_⟩
    rintro _ _
    dsimp only [xb, zeroX, nilA, z0]
    repeat' (first | refine o1 ?_ | refine o2 ?_ | refine k1 ?_ | refine k2 ?_ | refine k3 ?_ | refine k4 ?_ | refine k6 ?_ | refine k7 ?_ | refine k8 ?_ | refine And.intro ?_ ?_ | exact trivial | refine o3 ?_ | refine o4 ?_ | refine o5 ?_ | refine o6 ?_ | refine k5 ?_ | (intro h; first | exact Bool.noConfusion h | exact nz _ h | exact nl h | (simp at h; done) | (simp at h; first | (exfalso; omega) | skip) | skip) | (change retOk _ _ _ _; refine ret_pure rfl trivial ?_) | exact (rfl : allOne _ = true) | (refine (?_ : (0 : Int) ≤ _); omega) | (refine (?_ : _ ≠ _); omega) | (refine (?_ : srcLen _ = rowsLen _); rfl) | exact Nat.le_of_ble_eq_true rfl | exact (by kernel_rfl : drawOk _ _ = true) | refine eqv_len_map ?_ | refine eqv_size ?_ | refine eqv_put (eqv_ck ?_) | refine eqv_zero ?_ | refine eqv_wrap (by omega) (by omega) ?_ | refine eqv_u64 (by omega) (by omega) ?_ | refine eqv_u8 (by omega) (by omega) ?_ | refine eqv_to _ (set_map rfl rfl) ?_ | refine ⟨_, _, (by first | rfl | assumption), at_map (by assumption), ?_⟩ | refine ⟨_, _, (by first | rfl | assumption), (by assumption), ?_⟩ | refine ⟨_, at_map (by assumption), (by decide), ?_⟩ | refine ⟨_, at_map (by assumption), ?_⟩ | (refine (?_ : _ ≤ 140737488355328); simp [rowsLen] <;> omega) | (refine (?_ : _ ≤ 9223372036854775807); simp [rowsLen] <;> omega) | (refine (?_ : _ = rowsLen _); simp [rowsLen] <;> omega) | refine eqv_to _ (app_row rfl) (eqv_to _ app_len ?_) | refine eqv_to _ (app_first rfl) (eqv_to 1 rfl ?_) | refine idx_sl (at_map (by assumption)) (by omega) ?_ | refine idx_ms _ (by first | rfl | assumption) (by first | assumption | omega) ?_ | fail)
    exact ret_obj [0] [dice t k] rfl rfl ⟨rfl, trivial⟩ (r' := ag (Exams.cells ⟨rs3, (e1 :: el) ++ [e3], ss3, g3⟩)) rfl ⟨⟨rs3, (e1 :: el) ++ [e3], ss3, g3⟩, k, c1, ⟨by simp <;> omega, c2⟩, rfl, rfl⟩
  · simp only [List.length_cons] at hs
    repeat' (first | (refine app_wholem ?_) | (refine lit_idx (by assumption) (by assumption) (fun kx hkx => ?_)) | (refine lit_load rfl (by assumption) rfl (fun y => ?_)) | (refine lits_load rfl (by assumption) rfl (fun y => ?_)) | (refine lit4_load rfl (by assumption) ?_ ?_ ?_ ?_) | ((change vcFun _ _ _ _ _; refine call_oddrooms 0 rs rfl (by assumption) (by assumption) (by omega) ?_; intro rs2 kq hkq)) | (refine app_consm (f := Sitting.row) ⟨_, _, _, 0⟩ rfl ?_) | (refine ⟨0, rfl, Nat.succ_pos _, eqv_to 0 rfl ?_⟩) | (refine ⟨_, rfl, Nat.le_of_ble_eq_true rfl, eqv_rfl ?_⟩) | (refine join_to (a := .region 3 _ _) (fun _ : Unit => [(0, .ptr 0 2 0 0), (3, .ptr 1 8 0 0), (4, .ptr 2 8 0 0), (5, .ptr 5 4 0 0)]) (fun _ => [dice t k, xb (.pv (encRooms rs)) (slP 3 4 (List.map Exam.row (e1 :: el))) (slP 4 4 (List.map Sitting.row (s0 :: ss))) g, zeroX, obP 69 4 (List.map Exam.row (e1 :: el)), obP 23 4 (List.map Sitting.row (s0 :: ss)), e0b]) (fun _ => True) ?_) | refine o1 ?_ | refine o2 ?_ | refine k1 ?_ | refine k2 ?_ | refine k3 ?_ | refine k4 ?_ | refine k6 ?_ | refine k7 ?_ | refine k8 ?_ | refine And.intro ?_ ?_ | exact trivial | refine o3 ?_ | refine o4 ?_ | refine o5 ?_ | refine o6 ?_ | refine k5 ?_ | (intro h; first | exact Bool.noConfusion h | exact nz _ h | exact nl h | (simp at h; done) | (simp at h; first | (exfalso; omega) | skip) | skip) | (change retOk _ _ _ _; refine ret_pure rfl trivial ?_) | exact (rfl : allOne _ = true) | (refine (?_ : (0 : Int) ≤ _); omega) | (refine (?_ : _ ≠ _); omega) | (refine (?_ : srcLen _ = rowsLen _); rfl) | exact Nat.le_of_ble_eq_true rfl | exact (by kernel_rfl : drawOk _ _ = true) | refine eqv_len_map ?_ | refine eqv_size ?_ | refine eqv_put (eqv_ck ?_) | refine eqv_zero ?_ | refine eqv_wrap (by omega) (by omega) ?_ | refine eqv_u64 (by omega) (by omega) ?_ | refine eqv_u8 (by omega) (by omega) ?_ | refine eqv_to _ (set_map rfl rfl) ?_ | refine ⟨_, _, (by first | rfl | assumption), at_map (by assumption), ?_⟩ | refine ⟨_, _, (by first | rfl | assumption), (by assumption), ?_⟩ | refine ⟨_, at_map (by assumption), (by decide), ?_⟩ | refine ⟨_, at_map (by assumption), ?_⟩ | (refine (?_ : _ ≤ 140737488355328); simp [rowsLen] <;> omega) | (refine (?_ : _ ≤ 9223372036854775807); simp [rowsLen] <;> omega) | (refine (?_ : _ = rowsLen _); simp [rowsLen] <;> omega) | refine eqv_to _ (app_row rfl) (eqv_to _ app_len ?_) | refine eqv_to _ (app_first rfl) (eqv_to 1 rfl ?_) | refine idx_sl (at_map (by assumption)) (by omega) ?_ | refine idx_ms _ (by first | rfl | assumption) (by first | assumption | omega) ?_ | (change vcFun _ _ _ _ _; refine call_next 0 rfl (by assumption) (by assumption) (by omega) (by omega) ?_; intro v kq hv1 hv2 hkq) | (change vcFun _ _ _ _ _; refine call_one2 0 rfl (by assumption) (by assumption) (by omega) (by omega) ?_; intro bq kq hkq) | (change vcFunD _ _ _ _ _; refine callD_next 0 rfl (by assumption) (by assumption) (by omega) (by omega) ?_; intro v kq hv1 hv2 hkq) | (change vcFunD _ _ _ _ _; refine callD_one2 0 rfl (by assumption) (by assumption) (by omega) (by omega) ?_; intro bq kq hkq) | fail)
    · exact ⟨(), trivial, Ghost.trans (Ghost.shut (i := 6) (c := 3) (x := .ms 5 1 0 1) rfl rfl rfl (by repeat' (first | trivial | refine And.intro ?_ ?_ | (show 0 + _ ≤ List.length _; simp))) (show ¬ (6 ∈ ([5] : List Nat)) by decide) ALe.refl) (Ghost.trans (Ghost.shut (i := 6) (c := 2) (x := .pv (.val (.slice none 0 0))) rfl rfl rfl (by repeat' (first | trivial | refine And.intro ?_ ?_ | (show 0 + _ ≤ List.length _; simp))) (show ¬ (6 ∈ ([] : List Nat)) by decide) (ALe.pv PLe.nil)) (back [0, 1, 2, 3, 4, 6] rfl rfl ⟨rfl, rfl, rfl, rfl, rfl, rfl, trivial⟩ (by repeat' (first | exact trivial | exact rfl | exact ⟨_, rfl, ALe.refl⟩ | refine And.intro ?_ ?_))))⟩
    refine ⟨?_⟩
    rintro _ _
    dsimp only [xb, eb, e0b, slP, obP, zeroX, nilA, z0, List.map, List.length_cons, List.length_map]
    repeat' (first | (refine app_wholem ?_) | (refine lit_idx (by assumption) (by assumption) (fun kx hkx => ?_)) | (refine lit_load rfl (by assumption) rfl (fun y => ?_)) | (refine lits_load rfl (by assumption) rfl (fun y => ?_)) | (refine lit4_load rfl (by assumption) ?_ ?_ ?_ ?_) | ((change vcFun _ _ _ _ _; refine call_oddrooms 0 rs rfl (by assumption) (by assumption) (by omega) ?_; intro rs2 kq hkq)) | (refine app_consm (f := Sitting.row) ⟨_, _, _, 0⟩ rfl ?_) | (refine ⟨0, rfl, Nat.succ_pos _, eqv_to 0 rfl ?_⟩) | (refine ⟨_, rfl, Nat.le_of_ble_eq_true rfl, eqv_rfl ?_⟩) | (refine join_to (a := .seq (.region 4 _ _) _) (fun x : Nat × List Room × List Sitting × Gaps × Exam => [(0, .ptr 0 2 0 0), (3, .ptr 1 8 0 0), (4, .ptr 2 8 0 0), (5, .ptr 5 4 0 0)]) (fun x => [dice t x.1, xb (.pv (encRooms x.2.1)) (slP 3 4 (List.map Exam.row (e1 :: el))) (.pv (.sl 4 (x.2.2.1.map Sitting.row))) x.2.2.2.1, zeroX, obP 69 4 (List.map Exam.row (e1 :: el)), none, eb (.pv (es x.2.2.2.2.code)) (vint .i64 x.2.2.2.2.len) (.pv (encStrs x.2.2.2.2.feats)) (.pv (encStrs x.2.2.2.2.studs))]) (fun x => x.1 ≤ t.length ∧ x.2.2.1.length ≤ 6) ?_) | refine o1 ?_ | refine o2 ?_ | refine k1 ?_ | refine k2 ?_ | refine k3 ?_ | refine k4 ?_ | refine k6 ?_ | refine k7 ?_ | refine k8 ?_ | refine And.intro ?_ ?_ | exact trivial | refine o3 ?_ | refine o4 ?_ | refine o5 ?_ | refine o6 ?_ | refine k5 ?_ | (intro h; first | exact Bool.noConfusion h | exact nz _ h | exact nl h | (simp at h; done) | (simp at h; first | (exfalso; omega) | skip) | skip) | (change retOk _ _ _ _; refine ret_pure rfl trivial ?_) | exact (rfl : allOne _ = true) | (refine (?_ : (0 : Int) ≤ _); omega) | (refine (?_ : _ ≠ _); omega) | (refine (?_ : srcLen _ = rowsLen _); rfl) | exact Nat.le_of_ble_eq_true rfl | exact (by kernel_rfl : drawOk _ _ = true) | refine eqv_len_map ?_ | refine eqv_size ?_ | refine eqv_put (eqv_ck ?_) | refine eqv_zero ?_ | refine eqv_wrap (by omega) (by omega) ?_ | refine eqv_u64 (by omega) (by omega) ?_ | refine eqv_u8 (by omega) (by omega) ?_ | refine eqv_to _ (set_map rfl rfl) ?_ | refine ⟨_, _, (by first | rfl | assumption), at_map (by assumption), ?_⟩ | refine ⟨_, _, (by first | rfl | assumption), (by assumption), ?_⟩ | refine ⟨_, at_map (by assumption), (by decide), ?_⟩ | refine ⟨_, at_map (by assumption), ?_⟩ | (refine (?_ : _ ≤ 140737488355328); simp [rowsLen] <;> omega) | (refine (?_ : _ ≤ 9223372036854775807); simp [rowsLen] <;> omega) | (refine (?_ : _ = rowsLen _); simp [rowsLen] <;> omega) | refine eqv_to _ (app_row rfl) (eqv_to _ app_len ?_) | refine eqv_to _ (app_first rfl) (eqv_to 1 rfl ?_) | refine idx_sl (at_map (by assumption)) (by omega) ?_ | refine idx_ms _ (by first | rfl | assumption) (by first | assumption | omega) ?_ | (change vcFun _ _ _ _ _; refine call_next 0 rfl (by assumption) (by assumption) (by omega) (by omega) ?_; intro v kq hv1 hv2 hkq) | (change vcFun _ _ _ _ _; refine call_one2 0 rfl (by assumption) (by assumption) (by omega) (by omega) ?_; intro bq kq hkq) | (change vcFunD _ _ _ _ _; refine callD_next 0 rfl (by assumption) (by assumption) (by omega) (by omega) ?_; intro v kq hv1 hv2 hkq) | (change vcFunD _ _ _ _ _; refine callD_one2 0 rfl (by assumption) (by assumption) (by omega) (by omega) ?_; intro bq kq hkq) | fail)
    · exact ⟨(kq, rs2, s0 :: ss, g, ⟨⟨#[90]⟩, 1, [], [⟨#[115]⟩]⟩), ⟨hkq, (by show List.length _ ≤ 6; simp; try omega)⟩, Ghost.trans (Ghost.shut (i := 1) (c := 2) (x := .ms 4 4 0 ((List.map Sitting.row ss).length + 1)) rfl rfl rfl (by repeat' (first | trivial | refine And.intro ?_ ?_ | (show 0 + _ ≤ List.length _; simp))) (show ¬ (1 ∈ ([4] : List Nat)) by decide) (sits_le (m := s0 :: ss) (by simp))) (back [0, 1, 2, 3, 4, 5] rfl rfl ⟨rfl, rfl, rfl, rfl, rfl, trivial⟩ (by repeat' (first | exact trivial | exact rfl | exact ⟨_, rfl, ALe.refl⟩ | refine And.intro ?_ ?_)))⟩
    · exact ⟨(kq, rs, s0 :: ss, g, ⟨y, 1, [], [⟨#[115]⟩]⟩), ⟨hkq, (by show List.length _ ≤ 6; simp; try omega)⟩, Ghost.trans (Ghost.shut (i := 1) (c := 2) (x := .ms 4 4 0 ((List.map Sitting.row ss).length + 1)) rfl rfl rfl (by repeat' (first | trivial | refine And.intro ?_ ?_ | (show 0 + _ ≤ List.length _; simp))) (show ¬ (1 ∈ ([4] : List Nat)) by decide) (sits_le (m := s0 :: ss) (by simp))) (back [0, 1, 2, 3, 4, 5] rfl rfl ⟨rfl, rfl, rfl, rfl, rfl, trivial⟩ (by repeat' (first | exact trivial | exact rfl | exact ⟨_, rfl, ALe.refl⟩ | refine And.intro ?_ ?_)))⟩
    · exact ⟨(kq, rs, s0 :: ss, g, ⟨⟨#[90]⟩, y, [], [⟨#[115]⟩]⟩), ⟨hkq, (by show List.length _ ≤ 6; simp; try omega)⟩, Ghost.trans (Ghost.shut (i := 1) (c := 2) (x := .ms 4 4 0 ((List.map Sitting.row ss).length + 1)) rfl rfl rfl (by repeat' (first | trivial | refine And.intro ?_ ?_ | (show 0 + _ ≤ List.length _; simp))) (show ¬ (1 ∈ ([4] : List Nat)) by decide) (sits_le (m := s0 :: ss) (by simp))) (back [0, 1, 2, 3, 4, 5] rfl rfl ⟨rfl, rfl, rfl, rfl, rfl, trivial⟩ (by repeat' (first | exact trivial | exact rfl | exact ⟨_, rfl, ALe.refl⟩ | refine And.intro ?_ ?_)))⟩
    · exact ⟨(kq, rs, s0 :: ss, g, ⟨⟨#[90]⟩, 1, [], []⟩), ⟨hkq, (by show List.length _ ≤ 6; simp; try omega)⟩, Ghost.trans (Ghost.shut (i := 5) (c := 3) (x := .pv (.val (.slice none 0 0))) rfl rfl rfl (by repeat' (first | trivial | refine And.intro ?_ ?_ | (show 0 + _ ≤ List.length _; simp))) (show ¬ (5 ∈ ([] : List Nat)) by decide) (ALe.pv PLe.nil)) (Ghost.trans (Ghost.shut (i := 1) (c := 2) (x := .ms 4 4 0 ((List.map Sitting.row ss).length + 1)) rfl rfl rfl (by repeat' (first | trivial | refine And.intro ?_ ?_ | (show 0 + _ ≤ List.length _; simp))) (show ¬ (1 ∈ ([4] : List Nat)) by decide) (sits_le (m := s0 :: ss) (by simp))) (back [0, 1, 2, 3, 4, 5] rfl rfl ⟨rfl, rfl, rfl, rfl, rfl, trivial⟩ (by repeat' (first | exact trivial | exact rfl | exact ⟨_, rfl, ALe.refl⟩ | refine And.intro ?_ ?_))))⟩
    · exact ⟨(kq, rs, s0 :: ss, g, ⟨⟨#[90]⟩, 1, [], [⟨#[98]⟩, ⟨#[97]⟩]⟩), ⟨hkq, (by show List.length _ ≤ 6; simp; try omega)⟩, Ghost.trans (Ghost.shut (i := 5) (c := 3) (x := .ms 6 1 0 2) rfl rfl rfl (by repeat' (first | trivial | refine And.intro ?_ ?_ | (show 0 + _ ≤ List.length _; simp))) (show ¬ (5 ∈ ([6] : List Nat)) by decide) (ALe.refl)) (Ghost.trans (Ghost.shut (i := 1) (c := 2) (x := .ms 4 4 0 ((List.map Sitting.row ss).length + 1)) rfl rfl rfl (by repeat' (first | trivial | refine And.intro ?_ ?_ | (show 0 + _ ≤ List.length _; simp))) (show ¬ (1 ∈ ([4] : List Nat)) by decide) (sits_le (m := s0 :: ss) (by simp))) (back [0, 1, 2, 3, 4, 5] rfl rfl ⟨rfl, rfl, rfl, rfl, rfl, trivial⟩ (by repeat' (first | exact trivial | exact rfl | exact ⟨_, rfl, ALe.refl⟩ | refine And.intro ?_ ?_))))⟩
    · exact ⟨(kq, rs, s0 :: ss, g, ⟨⟨#[90]⟩, 1, [], [⟨#[97]⟩, ⟨#[97]⟩]⟩), ⟨hkq, (by show List.length _ ≤ 6; simp; try omega)⟩, Ghost.trans (Ghost.shut (i := 5) (c := 3) (x := .ms 7 1 0 2) rfl rfl rfl (by repeat' (first | trivial | refine And.intro ?_ ?_ | (show 0 + _ ≤ List.length _; simp))) (show ¬ (5 ∈ ([7] : List Nat)) by decide) (ALe.refl)) (Ghost.trans (Ghost.shut (i := 1) (c := 2) (x := .ms 4 4 0 ((List.map Sitting.row ss).length + 1)) rfl rfl rfl (by repeat' (first | trivial | refine And.intro ?_ ?_ | (show 0 + _ ≤ List.length _; simp))) (show ¬ (1 ∈ ([4] : List Nat)) by decide) (sits_le (m := s0 :: ss) (by simp))) (back [0, 1, 2, 3, 4, 5] rfl rfl ⟨rfl, rfl, rfl, rfl, rfl, trivial⟩ (by repeat' (first | exact trivial | exact rfl | exact ⟨_, rfl, ALe.refl⟩ | refine And.intro ?_ ?_))))⟩
    · exact ⟨(kq, rs, s0 :: ss, g, ⟨⟨#[90]⟩, 1, [], [⟨#[]⟩]⟩), ⟨hkq, (by show List.length _ ≤ 6; simp; try omega)⟩, Ghost.trans (Ghost.shut (i := 5) (c := 3) (x := .ms 8 1 0 1) rfl rfl rfl (by repeat' (first | trivial | refine And.intro ?_ ?_ | (show 0 + _ ≤ List.length _; simp))) (show ¬ (5 ∈ ([8] : List Nat)) by decide) (ALe.refl)) (Ghost.trans (Ghost.shut (i := 1) (c := 2) (x := .ms 4 4 0 ((List.map Sitting.row ss).length + 1)) rfl rfl rfl (by repeat' (first | trivial | refine And.intro ?_ ?_ | (show 0 + _ ≤ List.length _; simp))) (show ¬ (1 ∈ ([4] : List Nat)) by decide) (sits_le (m := s0 :: ss) (by simp))) (back [0, 1, 2, 3, 4, 5] rfl rfl ⟨rfl, rfl, rfl, rfl, rfl, trivial⟩ (by repeat' (first | exact trivial | exact rfl | exact ⟨_, rfl, ALe.refl⟩ | refine And.intro ?_ ?_))))⟩
    · exact ⟨(kq, rs, s0 :: ss, g, ⟨⟨#[90]⟩, 1, [⟨#[120]⟩, ⟨#[120]⟩], [⟨#[115]⟩]⟩), ⟨hkq, (by show List.length _ ≤ 6; simp; try omega)⟩, Ghost.trans (Ghost.shut (i := 5) (c := 2) (x := .ms 6 1 0 2) rfl rfl rfl (by repeat' (first | trivial | refine And.intro ?_ ?_ | (show 0 + _ ≤ List.length _; simp))) (show ¬ (5 ∈ ([6] : List Nat)) by decide) (ALe.refl)) (Ghost.trans (Ghost.shut (i := 1) (c := 2) (x := .ms 4 4 0 ((List.map Sitting.row ss).length + 1)) rfl rfl rfl (by repeat' (first | trivial | refine And.intro ?_ ?_ | (show 0 + _ ≤ List.length _; simp))) (show ¬ (1 ∈ ([4] : List Nat)) by decide) (sits_le (m := s0 :: ss) (by simp))) (back [0, 1, 2, 3, 4, 5] rfl rfl ⟨rfl, rfl, rfl, rfl, rfl, trivial⟩ (by repeat' (first | exact trivial | exact rfl | exact ⟨_, rfl, ALe.refl⟩ | refine And.intro ?_ ?_))))⟩
    · exact ⟨(kq, rs, s0 :: (ss ++ [⟨_, _, _, 0⟩]), g, ⟨⟨#[90]⟩, 1, [], [⟨#[115]⟩]⟩), ⟨hkq, (by show List.length _ ≤ 6; simp; try omega)⟩, Ghost.trans (Ghost.shut (i := 1) (c := 2) (x := .ms 9 4 0 ((List.map Sitting.row (ss ++ [_])).length + 1)) rfl rfl rfl (by repeat' (first | trivial | refine And.intro ?_ ?_ | (show 0 + _ ≤ List.length _; simp))) (show ¬ (1 ∈ ([9] : List Nat)) by decide) (sits_le (m := s0 :: (ss ++ [_])) (by simp))) (back [0, 1, 2, 3, 4, 5] rfl rfl ⟨rfl, rfl, rfl, rfl, rfl, trivial⟩ (by repeat' (first | exact trivial | exact rfl | exact ⟨_, rfl, ALe.refl⟩ | refine And.intro ?_ ?_)))⟩
    · exact ⟨(kq, rs, ⟨s0.day, s0.start, s0.len, y⟩ :: ss, g, ⟨⟨#[90]⟩, 1, [], [⟨#[115]⟩]⟩), ⟨hkq, (by show List.length _ ≤ 6; simp; try omega)⟩, Ghost.trans (Ghost.shut (i := 1) (c := 2) (x := .ms 4 4 0 ((List.map Sitting.row ss).length + 1)) rfl rfl rfl (by repeat' (first | trivial | refine And.intro ?_ ?_ | (show 0 + _ ≤ List.length _; simp))) (show ¬ (1 ∈ ([4] : List Nat)) by decide) (sits_le (m := ⟨s0.day, s0.start, s0.len, y⟩ :: ss) (by simp))) (back [0, 1, 2, 3, 4, 5] rfl rfl ⟨rfl, rfl, rfl, rfl, rfl, trivial⟩ (by repeat' (first | exact trivial | exact rfl | exact ⟨_, rfl, ALe.refl⟩ | refine And.intro ?_ ?_)))⟩
    · exact ⟨(kq, rs, s0 :: ss, ⟨g.row, g.day, g.near, y, g.mixed⟩, ⟨⟨#[90]⟩, 1, [], [⟨#[115]⟩]⟩), ⟨hkq, (by show List.length _ ≤ 6; simp; try omega)⟩, Ghost.trans (Ghost.shut (i := 1) (c := 2) (x := .ms 4 4 0 ((List.map Sitting.row ss).length + 1)) rfl rfl rfl (by repeat' (first | trivial | refine And.intro ?_ ?_ | (show 0 + _ ≤ List.length _; simp))) (show ¬ (1 ∈ ([4] : List Nat)) by decide) (sits_le (m := s0 :: ss) (by simp))) (back [0, 1, 2, 3, 4, 5] rfl rfl ⟨rfl, rfl, rfl, rfl, rfl, trivial⟩ (by repeat' (first | exact trivial | exact rfl | exact ⟨_, rfl, ALe.refl⟩ | refine And.intro ?_ ?_)))⟩
    · exact ⟨(kq, rs, s0 :: ss, ⟨y, g.day, g.near, g.days, g.mixed⟩, ⟨⟨#[90]⟩, 1, [], [⟨#[115]⟩]⟩), ⟨hkq, (by show List.length _ ≤ 6; simp; try omega)⟩, Ghost.trans (Ghost.shut (i := 1) (c := 2) (x := .ms 4 4 0 ((List.map Sitting.row ss).length + 1)) rfl rfl rfl (by repeat' (first | trivial | refine And.intro ?_ ?_ | (show 0 + _ ≤ List.length _; simp))) (show ¬ (1 ∈ ([4] : List Nat)) by decide) (sits_le (m := s0 :: ss) (by simp))) (back [0, 1, 2, 3, 4, 5] rfl rfl ⟨rfl, rfl, rfl, rfl, rfl, trivial⟩ (by repeat' (first | exact trivial | exact rfl | exact ⟨_, rfl, ALe.refl⟩ | refine And.intro ?_ ?_)))⟩
    refine ⟨?_⟩
    rintro ⟨k, rs3, ss3, g3, e3⟩ ⟨c1, c2⟩
    dsimp only [xb, eb, e0b, slP, obP, zeroX, nilA, z0, List.map, List.length_cons, List.length_map] at c1 c2 ⊢
    repeat' (first | (refine app_consm (f := Exam.row) e3 rfl ?_) | (refine join_to (a := .region 23 _ _) (fun _ : Unit => [(3, .ptr 1 8 0 0), (4, .ptr 2 8 0 0)]) (fun _ => [dice t k, xb (.pv (encRooms rs3)) (.pv (.sl 4 (List.map Exam.row ((e1 :: el) ++ [e3])))) (.pv (.sl 4 (ss3.map Sitting.row))) g3, zeroX]) (fun _ => True) ?_) | refine o1 ?_ | refine o2 ?_ | refine k1 ?_ | refine k2 ?_ | refine k3 ?_ | refine k4 ?_ | refine k6 ?_ | refine k7 ?_ | refine k8 ?_ | refine And.intro ?_ ?_ | exact trivial | refine o3 ?_ | refine o4 ?_ | refine o5 ?_ | refine o6 ?_ | refine k5 ?_ | (intro h; first | exact Bool.noConfusion h | exact nz _ h | exact nl h | (simp at h; done) | (simp at h; first | (exfalso; omega) | skip) | skip) | (change retOk _ _ _ _; refine ret_pure rfl trivial ?_) | exact (rfl : allOne _ = true) | (refine (?_ : (0 : Int) ≤ _); omega) | (refine (?_ : _ ≠ _); omega) | (refine (?_ : srcLen _ = rowsLen _); rfl) | exact Nat.le_of_ble_eq_true rfl | exact (by kernel_rfl : drawOk _ _ = true) | refine eqv_len_map ?_ | refine eqv_size ?_ | refine eqv_put (eqv_ck ?_) | refine eqv_zero ?_ | refine eqv_wrap (by omega) (by omega) ?_ | refine eqv_u64 (by omega) (by omega) ?_ | refine eqv_u8 (by omega) (by omega) ?_ | refine eqv_to _ (set_map rfl rfl) ?_ | refine ⟨_, _, (by first | rfl | assumption), at_map (by assumption), ?_⟩ | refine ⟨_, _, (by first | rfl | assumption), (by assumption), ?_⟩ | refine ⟨_, at_map (by assumption), (by decide), ?_⟩ | refine ⟨_, at_map (by assumption), ?_⟩ | (refine (?_ : _ ≤ 140737488355328); simp [rowsLen] <;> omega) | (refine (?_ : _ ≤ 9223372036854775807); simp [rowsLen] <;> omega) | (refine (?_ : _ = rowsLen _); simp [rowsLen] <;> omega) | refine eqv_to _ (app_row rfl) (eqv_to _ app_len ?_) | refine eqv_to _ (app_first rfl) (eqv_to 1 rfl ?_) | refine idx_sl (at_map (by assumption)) (by omega) ?_ | refine idx_ms _ (by first | rfl | assumption) (by first | assumption | omega) ?_ | fail)
    · refine ⟨(), trivial, Ghost.trans (Ghost.shut (i := 1) (c := 1) (x := .ms 7 4 0 ((List.map Exam.row (el ++ [e3])).length + 1)) rfl rfl rfl (by repeat' (first | trivial | refine And.intro ?_ ?_ | (show 0 + _ ≤ List.length _; simp))) (show ¬ (1 ∈ ([7] : List Nat)) by decide) (ALe.pv (PLe.sl (?_ : PLeLL _ (List.map Exam.row ((e1 :: el) ++ [e3])))))) (back [0, 1, 2] rfl rfl ⟨rfl, rfl, rfl, trivial⟩ (by repeat' (first | exact trivial | exact rfl | exact ⟨_, rfl, ALe.refl⟩ | refine And.intro ?_ ?_)))⟩
      rw [List.drop_zero, List.take_of_length_le (by simp)]
      exact PLeLL.refl
    refine ⟨?_⟩
    rintro _ _
    dsimp only [xb, zeroX, nilA, z0]
    repeat' (first | refine o1 ?_ | refine o2 ?_ | refine k1 ?_ | refine k2 ?_ | refine k3 ?_ | refine k4 ?_ | refine k6 ?_ | refine k7 ?_ | refine k8 ?_ | refine And.intro ?_ ?_ | exact trivial | refine o3 ?_ | refine o4 ?_ | refine o5 ?_ | refine o6 ?_ | refine k5 ?_ | (intro h; first | exact Bool.noConfusion h | exact nz _ h | exact nl h | (simp at h; done) | (simp at h; first | (exfalso; omega) | skip) | skip) | (change retOk _ _ _ _; refine ret_pure rfl trivial ?_) | exact (rfl : allOne _ = true) | (refine (?_ : (0 : Int) ≤ _); omega) | (refine (?_ : _ ≠ _); omega) | (refine (?_ : srcLen _ = rowsLen _); rfl) | exact Nat.le_of_ble_eq_true rfl | exact (by kernel_rfl : drawOk _ _ = true) | refine eqv_len_map ?_ | refine eqv_size ?_ | refine eqv_put (eqv_ck ?_) | refine eqv_zero ?_ | refine eqv_wrap (by omega) (by omega) ?_ | refine eqv_u64 (by omega) (by omega) ?_ | refine eqv_u8 (by omega) (by omega) ?_ | refine eqv_to _ (set_map rfl rfl) ?_ | refine ⟨_, _, (by first | rfl | assumption), at_map (by assumption), ?_⟩ | refine ⟨_, _, (by first | rfl | assumption), (by assumption), ?_⟩ | refine ⟨_, at_map (by assumption), (by decide), ?_⟩ | refine ⟨_, at_map (by assumption), ?_⟩ | (refine (?_ : _ ≤ 140737488355328); simp [rowsLen] <;> omega) | (refine (?_ : _ ≤ 9223372036854775807); simp [rowsLen] <;> omega) | (refine (?_ : _ = rowsLen _); simp [rowsLen] <;> omega) | refine eqv_to _ (app_row rfl) (eqv_to _ app_len ?_) | refine eqv_to _ (app_first rfl) (eqv_to 1 rfl ?_) | refine idx_sl (at_map (by assumption)) (by omega) ?_ | refine idx_ms _ (by first | rfl | assumption) (by first | assumption | omega) ?_ | fail)
    exact ret_obj [0] [dice t k] rfl rfl ⟨rfl, trivial⟩ (r' := ag (Exams.cells ⟨rs3, (e1 :: el) ++ [e3], ss3, g3⟩)) rfl ⟨⟨rs3, (e1 :: el) ++ [e3], ss3, g3⟩, k, c1, ⟨by simp <;> omega, c2⟩, rfl, rfl⟩
theorem c_oddexams (t : List Int) (k : Nat) (ht : t.length ≤ 400) (hk : k ≤ t.length) (x : Exams) (hr : x.rooms.length ≤ 5) (he : x.exams.length ≤ 5) (hs : x.sits.length ≤ 5) :
    ACall Tryz.prog 37 [.ptr 0 2 0 0, ag x.cells] [dice t k] (fun r H' => ∃ (y : Exams) (k' : Nat), k' ≤ t.length ∧ (y.exams.length ≤ 6 ∧ y.sits.length ≤ 6) ∧ r = ag y.cells ∧ H' = [dice t k']) := by
  obtain ⟨rs, el, ss, g⟩ := x
  rcases el with _ | ⟨e1, el⟩
  · exact c_oddexamsN t k ht hk rs ss g hr hs
  · exact c_oddexamsC t k ht hk rs e1 el ss g hr he hs
end Go.Proofs.YtpnghlibmpainaaGreat.Cw

/-
  Examinations of a law: some, short.
-/
namespace Go.Proofs.YtpnghlibmpainaaGreat.Cw
open Go.Cw Go.Proofs
set_option linter.unusedVariables false
set_option maxRecDepth 100000
set_option maxHeartbeats 1600000

theorem call_made {t : List Int} {k : Nat} {H : Heap} {K : AV → Heap → Prop} (i : Nat) (hi : H[i]? = some (dice t k)) (ht : t.length ≤ 400) (hk : k ≤ t.length)
    (hK : ∀ (x : Exams) k2, k2 ≤ t.length → x.rooms.length ≤ 5 → x.exams.length ≤ 5 → x.sits.length ≤ 5 → K (ag x.cells) (H.set i (dice t k2))) : vcFun Tryz.prog 24 [.ptr i 2 0 0] H K := by
  refine call_one (i := i) hi (fun _ _ => rfl) [.ptr 0 2 0 0] rfl (c_made t k ht hk) ?_
  rintro r H' ⟨y, k', h1, ⟨h2, h3, h4⟩, rfl, rfl⟩
  exact ⟨_, rfl, fun _ _ => rfl, fun _ _ => rfl, hK y k' h1 h2 h3 h4⟩
theorem call_oddexams {t : List Int} {k : Nat} {H : Heap} {K : AV → Heap → Prop} (i : Nat) (x : Exams) (hi : H[i]? = some (dice t k)) (ht : t.length ≤ 400) (hk : k ≤ t.length) (h1 : x.rooms.length ≤ 5) (h2 : x.exams.length ≤ 5) (h3 : x.sits.length ≤ 5)
    (hK : ∀ (y : Exams) k2, k2 ≤ t.length → y.exams.length ≤ 6 → y.sits.length ≤ 6 → K (ag y.cells) (H.set i (dice t k2))) : vcFun Tryz.prog 37 [.ptr i 2 0 0, ag x.cells] H K := by
  refine call_one (i := i) hi (fun _ _ => rfl) [.ptr 0 2 0 0, ag x.cells] rfl (c_oddexams t k ht hk x h1 h2 h3) ?_
  rintro r H' ⟨y, k', h1, ⟨h2, h3⟩, rfl, rfl⟩
  exact ⟨_, rfl, fun _ _ => rfl, fun _ _ => rfl, hK y k' h1 h2 h3⟩

theorem c_some (t : List Int) (k : Nat) (ht : t.length ≤ 400) (hk : k ≤ t.length) :
    ACall Tryz.prog 10 [.ptr 0 2 0 0] [dice t k] (fun r H' => ∃ (y : Exams) (k' : Nat), k' ≤ t.length ∧ (y.exams.length ≤ 6 ∧ y.sits.length ≤ 6) ∧ r = ag y.cells ∧ H' = [dice t k']) := by
  refine acall_of tok mixed 12 rfl (fn := Tryz.f10) (c := Tryz.f10.body.getD .skip) (by kernel_rfl) (by kernel_rfl) (by kernel_rfl) rfl 1 rfl ?_
  repeat' (first | ((change vcFun _ _ _ _ _; refine call_made 0 rfl (by assumption) (by assumption) ?_; intro x kx hkx hx1 hx2 hx3)) | ((change vcFun _ _ _ _ _; refine call_oddexams 0 x rfl (by assumption) (by assumption) (by assumption) (by assumption) (by assumption) ?_; intro y ky hky hy1 hy2)) | refine o1 ?_ | refine o2 ?_ | refine k1 ?_ | refine k2 ?_ | refine k3 ?_ | refine k4 ?_ | refine k6 ?_ | refine k7 ?_ | refine k8 ?_ | refine And.intro ?_ ?_ | exact trivial | refine o3 ?_ | refine o4 ?_ | refine o5 ?_ | refine o6 ?_ | refine k5 ?_ | (intro h; first | exact Bool.noConfusion h | exact nz _ h | exact nl h | (simp at h; done) | (simp at h; first | (exfalso; omega) | skip) | skip) | (change retOk _ _ _ _; refine ret_pure rfl trivial ?_) | exact (rfl : allOne _ = true) | (refine (?_ : (0 : Int) ≤ _); omega) | (refine (?_ : _ ≠ _); omega) | (refine (?_ : srcLen _ = rowsLen _); rfl) | exact Nat.le_of_ble_eq_true rfl | exact (by kernel_rfl : drawOk _ _ = true) | refine eqv_len_map ?_ | refine eqv_size ?_ | refine eqv_put (eqv_ck ?_) | refine eqv_zero ?_ | refine eqv_wrap (by omega) (by omega) ?_ | refine eqv_u64 (by omega) (by omega) ?_ | refine eqv_u8 (by omega) (by omega) ?_ | refine eqv_to _ (set_map rfl rfl) ?_ | refine ⟨_, _, (by first | rfl | assumption), at_map (by assumption), ?_⟩ | refine ⟨_, _, (by first | rfl | assumption), (by assumption), ?_⟩ | refine ⟨_, at_map (by assumption), (by decide), ?_⟩ | refine ⟨_, at_map (by assumption), ?_⟩ | (refine (?_ : _ ≤ 140737488355328); simp [rowsLen] <;> omega) | (refine (?_ : _ ≤ 9223372036854775807); simp [rowsLen] <;> omega) | (refine (?_ : _ = rowsLen _); simp [rowsLen] <;> omega) | refine eqv_to _ (app_row rfl) (eqv_to _ app_len ?_) | refine eqv_to _ (app_first rfl) (eqv_to 1 rfl ?_) | refine idx_sl (at_map (by assumption)) (by omega) ?_ | refine idx_ms _ (by first | rfl | assumption) (by first | assumption | omega) ?_ | (change vcFun _ _ _ _ _; refine call_next 0 rfl (by assumption) (by assumption) (by omega) (by omega) ?_; intro v kq hv1 hv2 hkq) | (change vcFun _ _ _ _ _; refine call_one2 0 rfl (by assumption) (by assumption) (by omega) (by omega) ?_; intro bq kq hkq) | (change vcFunD _ _ _ _ _; refine callD_next 0 rfl (by assumption) (by assumption) (by omega) (by omega) ?_; intro v kq hv1 hv2 hkq) | (change vcFunD _ _ _ _ _; refine callD_one2 0 rfl (by assumption) (by assumption) (by omega) (by omega) ?_; intro bq kq hkq) | fail)
  all_goals first
    | exact ret_obj [0] [dice t ky] rfl rfl ⟨rfl, trivial⟩ (r' := ag y.cells) rfl ⟨y, ky, hky, ⟨hy1, hy2⟩, rfl, rfl⟩
    | exact ret_obj [0] [dice t kq] rfl rfl ⟨rfl, trivial⟩ (r' := ag x.cells) rfl ⟨x, kq, hkq, ⟨by omega, by omega⟩, rfl, rfl⟩

def okE (e : Exam) : Bool := decide (e.studs.length ≤ 70) && decide (e.feats.length ≤ 20)
def shortB (x : Exams) : Bool := (x.exams.take 30).all okE && (decide (x.rooms.length ≤ 20) && decide (x.exams.length ≤ 30) && decide (x.sits.length ≤ 30))
theorem short_f {x : Exams} {i : Nat} {e : Exam} (hi : i < 30) (he : x.exams[i]? = some e) (h : okE e = false) : shortB x = false := by
  unfold shortB
  rw [List.all_eq_false.2 ⟨e, List.mem_of_getElem? (i := i) (by rw [List.getElem?_take, if_pos hi]; exact he), by simp [h]⟩]
  rfl
theorem short_t {x : Exams} {i : Nat} (hi : i = 30 ∨ i = x.exams.length) (h : ∀ j, j < i → ∀ e, x.exams[j]? = some e → okE e = true) : shortB x = (decide (x.rooms.length ≤ 20) && decide (x.exams.length ≤ 30) && decide (x.sits.length ≤ 30)) := by
  unfold shortB
  rw [List.all_eq_true.2, Bool.true_and]
  intro e he
  obtain ⟨j, hj⟩ := List.getElem?_of_mem he
  rw [List.getElem?_take] at hj
  split at hj
  · have := (List.getElem?_eq_some_iff.1 hj).1
    exact h j (by omega) e hj
  · cases hj
theorem len30 (n : Nat) : decide ((n : Int) ≤ 30) = (true && true && decide (n ≤ 30)) := by
  by_cases h : n ≤ 30
  · simp [h]; omega
  · simp [h]; omega
theorem c_short (x : Exams) : PCall Tryz.prog 19 [ag x.cells] (fun r => r = vbool (shortB x)) := by
  refine acall_of tok mixed 49 rfl (fn := Tryz.f19) (c := Tryz.f19.body.getD .skip) (by kernel_rfl) (by kernel_rfl) (by kernel_rfl) rfl 0 rfl ?_
  repeat' (first | refine o1 ?_ | refine o2 ?_ | refine k1 ?_ | refine k2 ?_ | refine k3 ?_ | refine k4 ?_ | refine k6 ?_ | refine k7 ?_ | refine k8 ?_ | refine And.intro ?_ ?_ | exact trivial | refine o3 ?_ | refine o4 ?_ | refine o5 ?_ | refine o6 ?_ | refine k5 ?_ | (intro h; first | exact Bool.noConfusion h | exact nz _ h | exact nl h | (simp at h; done) | (simp at h; first | (exfalso; omega) | skip) | skip) | (change retOk _ _ _ _; refine ret_pure rfl trivial ?_) | exact (rfl : allOne _ = true) | (refine (?_ : (0 : Int) ≤ _); omega) | (refine (?_ : _ ≠ _); omega) | (refine (?_ : srcLen _ = rowsLen _); rfl) | exact Nat.le_of_ble_eq_true rfl | exact (by kernel_rfl : drawOk _ _ = true) | refine eqv_len_map ?_ | refine eqv_size ?_ | refine eqv_put (eqv_ck ?_) | refine eqv_zero ?_ | refine eqv_wrap (by omega) (by omega) ?_ | refine eqv_u64 (by omega) (by omega) ?_ | refine eqv_u8 (by omega) (by omega) ?_ | refine eqv_to _ (set_map rfl rfl) ?_ | refine ⟨_, _, (by first | rfl | assumption), at_map (by assumption), ?_⟩ | refine ⟨_, _, (by first | rfl | assumption), (by assumption), ?_⟩ | refine ⟨_, at_map (by assumption), (by decide), ?_⟩ | refine ⟨_, at_map (by assumption), ?_⟩ | (refine (?_ : _ ≤ 140737488355328); simp [rowsLen] <;> omega) | (refine (?_ : _ ≤ 9223372036854775807); simp [rowsLen] <;> omega) | (refine (?_ : _ = rowsLen _); simp [rowsLen] <;> omega) | refine eqv_to _ (app_row rfl) (eqv_to _ app_len ?_) | refine eqv_to _ (app_first rfl) (eqv_to 1 rfl ?_) | refine idx_sl (at_map (by assumption)) (by omega) ?_ | refine idx_ms _ (by first | rfl | assumption) (by first | assumption | omega) ?_ | fail)
  refine loop_at (fun i : Nat => [(3, vint .i64 i)]) (fun _ => []) (fun i => (i ≤ x.exams.length ∧ i ≤ 30) ∧ ∀ j, j < i → ∀ e, x.exams[j]? = some e → okE e = true) (fun i => 30 - i) 0 ⟨⟨by omega, by omega⟩, fun j hj => by omega⟩ (by repeat' (first | exact trivial | exact rfl | exact ⟨_, rfl, ALe.refl⟩ | refine And.intro ?_ ?_)) (by repeat' (first | exact trivial | exact rfl | exact ⟨_, rfl, ALe.refl⟩ | refine And.intro ?_ ?_)) ?_
  intro i ⟨⟨hi, hi2⟩, hall⟩
  rcases Nat.lt_or_ge i x.exams.length with hlt | hge
  · obtain ⟨e, he⟩ := getE hlt
    repeat' (first | refine o1 ?_ | refine o2 ?_ | refine k1 ?_ | refine k2 ?_ | refine k3 ?_ | refine k4 ?_ | refine k6 ?_ | refine k7 ?_ | refine k8 ?_ | refine And.intro ?_ ?_ | exact trivial | refine o3 ?_ | refine o4 ?_ | refine o5 ?_ | refine o6 ?_ | refine k5 ?_ | (intro h; first | exact Bool.noConfusion h | exact nz _ h | exact nl h | (simp at h; done) | (simp at h; first | (exfalso; omega) | skip) | skip) | (change retOk _ _ _ _; refine ret_pure rfl trivial ?_) | exact (rfl : allOne _ = true) | (refine (?_ : (0 : Int) ≤ _); omega) | (refine (?_ : _ ≠ _); omega) | (refine (?_ : srcLen _ = rowsLen _); rfl) | exact Nat.le_of_ble_eq_true rfl | exact (by kernel_rfl : drawOk _ _ = true) | refine eqv_len_map ?_ | refine eqv_size ?_ | refine eqv_put (eqv_ck ?_) | refine eqv_zero ?_ | refine eqv_wrap (by omega) (by omega) ?_ | refine eqv_u64 (by omega) (by omega) ?_ | refine eqv_u8 (by omega) (by omega) ?_ | refine eqv_to _ (set_map rfl rfl) ?_ | refine ⟨_, _, (by first | rfl | assumption), at_map (by assumption), ?_⟩ | refine ⟨_, _, (by first | rfl | assumption), (by assumption), ?_⟩ | refine ⟨_, at_map (by assumption), (by decide), ?_⟩ | refine ⟨_, at_map (by assumption), ?_⟩ | (refine (?_ : _ ≤ 140737488355328); simp [rowsLen] <;> omega) | (refine (?_ : _ ≤ 9223372036854775807); simp [rowsLen] <;> omega) | (refine (?_ : _ = rowsLen _); simp [rowsLen] <;> omega) | refine eqv_to _ (app_row rfl) (eqv_to _ app_len ?_) | refine eqv_to _ (app_first rfl) (eqv_to 1 rfl ?_) | refine idx_sl (at_map (by assumption)) (by omega) ?_ | refine idx_ms _ (by first | rfl | assumption) (by first | assumption | omega) ?_ | fail)
    all_goals first
      | (exfalso; omega)
      | (refine congrArg vbool (short_f (i := i) (by omega) he ?_).symm; unfold okE; simp <;> omega)
      | (refine ⟨i + 1, ⟨⟨by omega, by omega⟩, all_lt_succ hall ?_⟩, by omega, back [0] rfl rfl ⟨rfl, trivial⟩ (by repeat' (first | exact trivial | exact rfl | exact ⟨_, rfl, ALe.refl⟩ | refine And.intro ?_ ?_))⟩
         intro e' he'
         rw [he] at he'; injection he' with he'; subst he'
         unfold okE; simp <;> omega)
      | (rw [short_t (i := i) (by omega) hall]; refine congrArg vbool ?_; simp <;> omega)
  · repeat' (first | refine o1 ?_ | refine o2 ?_ | refine k1 ?_ | refine k2 ?_ | refine k3 ?_ | refine k4 ?_ | refine k6 ?_ | refine k7 ?_ | refine k8 ?_ | refine And.intro ?_ ?_ | exact trivial | refine o3 ?_ | refine o4 ?_ | refine o5 ?_ | refine o6 ?_ | refine k5 ?_ | (intro h; first | exact Bool.noConfusion h | exact nz _ h | exact nl h | (simp at h; done) | (simp at h; first | (exfalso; omega) | skip) | skip) | (change retOk _ _ _ _; refine ret_pure rfl trivial ?_) | exact (rfl : allOne _ = true) | (refine (?_ : (0 : Int) ≤ _); omega) | (refine (?_ : _ ≠ _); omega) | (refine (?_ : srcLen _ = rowsLen _); rfl) | exact Nat.le_of_ble_eq_true rfl | exact (by kernel_rfl : drawOk _ _ = true) | refine eqv_len_map ?_ | refine eqv_size ?_ | refine eqv_put (eqv_ck ?_) | refine eqv_zero ?_ | refine eqv_wrap (by omega) (by omega) ?_ | refine eqv_u64 (by omega) (by omega) ?_ | refine eqv_u8 (by omega) (by omega) ?_ | refine eqv_to _ (set_map rfl rfl) ?_ | refine ⟨_, _, (by first | rfl | assumption), at_map (by assumption), ?_⟩ | refine ⟨_, _, (by first | rfl | assumption), (by assumption), ?_⟩ | refine ⟨_, at_map (by assumption), (by decide), ?_⟩ | refine ⟨_, at_map (by assumption), ?_⟩ | (refine (?_ : _ ≤ 140737488355328); simp [rowsLen] <;> omega) | (refine (?_ : _ ≤ 9223372036854775807); simp [rowsLen] <;> omega) | (refine (?_ : _ = rowsLen _); simp [rowsLen] <;> omega) | refine eqv_to _ (app_row rfl) (eqv_to _ app_len ?_) | refine eqv_to _ (app_first rfl) (eqv_to 1 rfl ?_) | refine idx_sl (at_map (by assumption)) (by omega) ?_ | refine idx_ms _ (by first | rfl | assumption) (by first | assumption | omega) ?_ | fail)
    all_goals first
      | (exfalso; omega)
      | (rw [short_t (i := i) (by omega) hall]; refine congrArg vbool ?_; simp <;> omega)
      | (rw [short_t (i := i) (by omega) hall, decide_eq_true (show x.rooms.length ≤ 20 by omega), decide_eq_true (show x.exams.length ≤ 30 by omega)]; exact congrArg vbool (len30 _))
end Go.Proofs.YtpnghlibmpainaaGreat.Cw

/-
  Contracts: times that overlap, times of sittings, lists that contain.
-/
namespace Go.Proofs.YtpnghlibmpainaaGreat.Cw
open Go.Cw Go.Proofs
set_option linter.unusedVariables false
set_option maxRecDepth 100000
set_option maxHeartbeats 800000

theorem bits_comm (a b : Int) : bits .and .i64 a b = bits .and .i64 b a := by
  unfold bits
  dsimp only
  rw [BitVec.and_comm]
def meetP (a b : Time) : Prop := soundP a ∧ soundP b ∧ bits .and .i64 a.weeks b.weeks ≠ 0 ∧ a.day = b.day
noncomputable def btw (a b : Time) : Int := if pB (meetP a b) then max (-1) (max (b.start - a.start - a.len) (a.start - b.start - b.len)) else 0
def ovP (a b : Time) : Prop := meetP a b ∧ b.start < a.start + a.len ∧ a.start < b.start + b.len
theorem ovP_comm {a b : Time} : ovP a b ↔ ovP b a := by
  unfold ovP meetP
  rw [bits_comm]
  constructor <;> (rintro ⟨⟨h1, h2, h3, h4⟩, h5, h6⟩; exact ⟨⟨h2, h1, h3, h4.symm⟩, h6, h5⟩)
theorem ov_btw {a b : Time} : pB (ovP a b) = (pB (meetP a b) && decide (btw a b < 0)) := by
  by_cases h : meetP a b
  · rw [pB_t h, Bool.true_and]
    unfold btw
    rw [pB_t h, if_pos rfl]
    by_cases h2 : b.start < a.start + a.len ∧ a.start < b.start + b.len
    · rw [pB_t (show ovP a b from ⟨h, h2⟩)]
      symm; simp only [decide_eq_true_eq]; omega
    · rw [pB_f (fun h3 : ovP a b => h2 h3.2)]
      symm; simp only [decide_eq_false_iff_not]; omega
  · rw [pB_f h, pB_f (fun h3 : ovP a b => h h3.1)]; rfl
theorem sound_b {t : Time} (h : soundP t) : 0 ≤ t.day ∧ t.day < 7 ∧ 0 ≤ t.start ∧ t.start < 24 ∧ 1 ≤ t.len ∧ t.len ≤ 24 := by
  obtain ⟨h1, h2, h3, h4, h5, h6, h7⟩ := h
  exact ⟨by omega, by omega, by omega, by omega, by omega, by omega⟩

theorem c_rmeet (a b : Time) : PCall Tryz.prog 165 [ag a.row, ag b.row] (fun r => r = vbool (pB (meetP a b))) := by
  refine acall_of tok mixed 26 rfl (fn := Tryz.f165) (c := Tryz.f165.body.getD .skip) (by kernel_rfl) (by kernel_rfl) (by kernel_rfl) rfl 0 rfl ?_
  repeat' (first | (refine (eqv_rfl ?_ : eqv (bits _ _ _ _) _)) | refine o1 ?_ | refine o2 ?_ | refine k1 ?_ | refine k2 ?_ | refine k3 ?_ | refine k4 ?_ | refine k6 ?_ | refine k7 ?_ | refine k8 ?_ | refine And.intro ?_ ?_ | exact trivial | refine o3 ?_ | refine o4 ?_ | refine o5 ?_ | refine o6 ?_ | refine k5 ?_ | (intro h; first | exact Bool.noConfusion h | exact nz _ h | exact nl h | (simp at h; done) | (simp at h; first | (exfalso; omega) | skip) | skip) | (change retOk _ _ _ _; refine ret_pure rfl trivial ?_) | exact (rfl : allOne _ = true) | (refine (?_ : (0 : Int) ≤ _); omega) | (refine (?_ : _ ≠ _); omega) | (refine (?_ : srcLen _ = rowsLen _); rfl) | exact Nat.le_of_ble_eq_true rfl | exact (by kernel_rfl : drawOk _ _ = true) | refine eqv_len_map ?_ | refine eqv_size ?_ | refine eqv_put (eqv_ck ?_) | refine eqv_zero ?_ | refine eqv_wrap (by omega) (by omega) ?_ | refine eqv_u64 (by omega) (by omega) ?_ | refine eqv_u8 (by omega) (by omega) ?_ | refine eqv_to _ (set_map rfl rfl) ?_ | refine ⟨_, _, (by first | rfl | assumption), at_map (by assumption), ?_⟩ | refine ⟨_, _, (by first | rfl | assumption), (by assumption), ?_⟩ | refine ⟨_, at_map (by assumption), (by decide), ?_⟩ | refine ⟨_, at_map (by assumption), ?_⟩ | (refine (?_ : _ ≤ 140737488355328); simp [rowsLen] <;> omega) | (refine (?_ : _ ≤ 9223372036854775807); simp [rowsLen] <;> omega) | (refine (?_ : _ = rowsLen _); simp [rowsLen] <;> omega) | refine eqv_to _ (app_row rfl) (eqv_to _ app_len ?_) | refine eqv_to _ (app_first rfl) (eqv_to 1 rfl ?_) | refine idx_sl (at_map (by assumption)) (by omega) ?_ | refine idx_ms _ (by first | rfl | assumption) (by first | assumption | omega) ?_ | (change vcFun _ _ _ _ _; refine call_eq rfl (by repeat' (first | trivial | refine And.intro ?_ ?_ | (show 0 + _ ≤ List.length _; simp))) ALeL.refl (c_rsound a) rfl ?_) | (change vcFun _ _ _ _ _; refine call_eq rfl (by repeat' (first | trivial | refine And.intro ?_ ?_ | (show 0 + _ ≤ List.length _; simp))) ALeL.refl (c_rsound b) rfl ?_) | (change vcFunD _ _ _ _ _; refine callD_eq rfl (by repeat' (first | trivial | refine And.intro ?_ ?_ | (show 0 + _ ≤ List.length _; simp))) ALeL.refl (c_rsound a) rfl ?_) | (change vcFunD _ _ _ _ _; refine callD_eq rfl (by repeat' (first | trivial | refine And.intro ?_ ?_ | (show 0 + _ ≤ List.length _; simp))) ALeL.refl (c_rsound b) rfl ?_) | fail)
  all_goals first
    | exact congrArg vbool (pB_f fun h => by obtain ⟨h1, h2, h3, h4⟩ := h; simp_all).symm
    | exact congrArg vbool (pB_eq (by unfold meetP; simp_all)).symm
    | exact congrArg vbool (pB_eq (by unfold meetP; simp_all))
theorem btw_t {a b : Time} (h : meetP a b) : btw a b = max (-1) (max (b.start - a.start - a.len) (a.start - b.start - b.len)) := by unfold btw; rw [pB_t h, if_pos rfl]
theorem btw_f {a b : Time} (h : ¬ meetP a b) : btw a b = 0 := by unfold btw; rw [pB_f h]; rfl
theorem tup2 {n m : Int} {b c : Bool} (h1 : n = m) (h2 : b = c) : AV.tup [vint .i64 n, vbool b] = AV.tup [vint .i64 m, vbool c] := by rw [h1, h2]

theorem c_between (a b : Time) : PCall Tryz.prog 128 [ag a.row, ag b.row] (fun r => r = .tup [vint .i64 (btw a b), vbool (pB (meetP a b))]) := by
  refine acall_of tok mixed 46 rfl (fn := Tryz.f128) (c := Tryz.f128.body.getD .skip) (by kernel_rfl) (by kernel_rfl) (by kernel_rfl) rfl 0 rfl ?_
  repeat' (first | (refine (eqv_rfl ?_ : eqv (bits _ _ _ _) _)) | (refine eqv_wrap (by have h1 := sound_b (t := a) (by first | assumption | exact (And.left ‹meetP a b›)); have h2 := sound_b (t := b) (by first | assumption | exact (And.left (And.right ‹meetP a b›))); (try dsimp only [cond]); omega) (by have h1 := sound_b (t := a) (by first | assumption | exact (And.left ‹meetP a b›)); have h2 := sound_b (t := b) (by first | assumption | exact (And.left (And.right ‹meetP a b›))); (try dsimp only [cond]); omega) ?_) | refine o1 ?_ | refine o2 ?_ | refine k1 ?_ | refine k2 ?_ | refine k3 ?_ | refine k4 ?_ | refine k6 ?_ | refine k7 ?_ | refine k8 ?_ | refine And.intro ?_ ?_ | exact trivial | refine o3 ?_ | refine o4 ?_ | refine o5 ?_ | refine o6 ?_ | refine k5 ?_ | (intro h; first | exact Bool.noConfusion h | exact nz _ h | exact nl h | (simp at h; done) | (simp at h; first | (exfalso; omega) | skip) | skip) | (change retOk _ _ _ _; refine ret_pure rfl trivial ?_) | exact (rfl : allOne _ = true) | (refine (?_ : (0 : Int) ≤ _); omega) | (refine (?_ : _ ≠ _); omega) | (refine (?_ : srcLen _ = rowsLen _); rfl) | exact Nat.le_of_ble_eq_true rfl | exact (by kernel_rfl : drawOk _ _ = true) | refine eqv_len_map ?_ | refine eqv_size ?_ | refine eqv_put (eqv_ck ?_) | refine eqv_zero ?_ | refine eqv_wrap (by omega) (by omega) ?_ | refine eqv_u64 (by omega) (by omega) ?_ | refine eqv_u8 (by omega) (by omega) ?_ | refine eqv_to _ (set_map rfl rfl) ?_ | refine ⟨_, _, (by first | rfl | assumption), at_map (by assumption), ?_⟩ | refine ⟨_, _, (by first | rfl | assumption), (by assumption), ?_⟩ | refine ⟨_, at_map (by assumption), (by decide), ?_⟩ | refine ⟨_, at_map (by assumption), ?_⟩ | (refine (?_ : _ ≤ 140737488355328); simp [rowsLen] <;> omega) | (refine (?_ : _ ≤ 9223372036854775807); simp [rowsLen] <;> omega) | (refine (?_ : _ = rowsLen _); simp [rowsLen] <;> omega) | refine eqv_to _ (app_row rfl) (eqv_to _ app_len ?_) | refine eqv_to _ (app_first rfl) (eqv_to 1 rfl ?_) | refine idx_sl (at_map (by assumption)) (by omega) ?_ | refine idx_ms _ (by first | rfl | assumption) (by first | assumption | omega) ?_ | (change vcFun _ _ _ _ _; refine call_eq rfl (by repeat' (first | trivial | refine And.intro ?_ ?_ | (show 0 + _ ≤ List.length _; simp))) ALeL.refl (c_rmeet a b) rfl ?_) | (change vcFun _ _ _ _ _; refine call_eq rfl (by repeat' (first | trivial | refine And.intro ?_ ?_ | (show 0 + _ ≤ List.length _; simp))) ALeL.refl (c_sound a) rfl ?_) | (change vcFun _ _ _ _ _; refine call_eq rfl (by repeat' (first | trivial | refine And.intro ?_ ?_ | (show 0 + _ ≤ List.length _; simp))) ALeL.refl (c_sound b) rfl ?_) | (change vcFunD _ _ _ _ _; refine callD_eq rfl (by repeat' (first | trivial | refine And.intro ?_ ?_ | (show 0 + _ ≤ List.length _; simp))) ALeL.refl (c_sound a) rfl ?_) | (change vcFunD _ _ _ _ _; refine callD_eq rfl (by repeat' (first | trivial | refine And.intro ?_ ?_ | (show 0 + _ ≤ List.length _; simp))) ALeL.refl (c_sound b) rfl ?_) | fail)
  all_goals first
    | exact tup2 (btw_f (by first | assumption | (unfold meetP; simp_all))).symm (pB_f (by first | assumption | (unfold meetP; simp_all))).symm
    | (have hm : meetP a b := by first | assumption | exact ⟨by assumption, by assumption, by assumption, by assumption⟩
       refine tup2 ?_ (pB_t hm).symm
       rw [btw_t hm]
       have h1 := sound_b hm.1
       have h2 := sound_b hm.2.1
       simp only [mm, cond_true, cond_false]
       repeat' split
       all_goals omega)
theorem c_overlap (a b : Time) : PCall Tryz.prog 82 [ag a.row, ag b.row] (fun r => r = vbool (pB (ovP a b))) := by
  refine acall_of tok mixed 18 rfl (fn := Tryz.f82) (c := Tryz.f82.body.getD .skip) (by kernel_rfl) (by kernel_rfl) (by kernel_rfl) rfl 0 rfl ?_
  rw [ov_btw]
  repeat' (first | refine o1 ?_ | refine o2 ?_ | refine k1 ?_ | refine k2 ?_ | refine k3 ?_ | refine k4 ?_ | refine k6 ?_ | refine k7 ?_ | refine k8 ?_ | refine And.intro ?_ ?_ | exact trivial | refine o3 ?_ | refine o4 ?_ | refine o5 ?_ | refine o6 ?_ | refine k5 ?_ | (intro h; first | exact Bool.noConfusion h | exact nz _ h | exact nl h | (simp at h; done) | (simp at h; first | (exfalso; omega) | skip) | skip) | (change retOk _ _ _ _; refine ret_pure rfl trivial ?_) | exact (rfl : allOne _ = true) | (refine (?_ : (0 : Int) ≤ _); omega) | (refine (?_ : _ ≠ _); omega) | (refine (?_ : srcLen _ = rowsLen _); rfl) | exact Nat.le_of_ble_eq_true rfl | exact (by kernel_rfl : drawOk _ _ = true) | refine eqv_len_map ?_ | refine eqv_size ?_ | refine eqv_put (eqv_ck ?_) | refine eqv_zero ?_ | refine eqv_wrap (by omega) (by omega) ?_ | refine eqv_u64 (by omega) (by omega) ?_ | refine eqv_u8 (by omega) (by omega) ?_ | refine eqv_to _ (set_map rfl rfl) ?_ | refine ⟨_, _, (by first | rfl | assumption), at_map (by assumption), ?_⟩ | refine ⟨_, _, (by first | rfl | assumption), (by assumption), ?_⟩ | refine ⟨_, at_map (by assumption), (by decide), ?_⟩ | refine ⟨_, at_map (by assumption), ?_⟩ | (refine (?_ : _ ≤ 140737488355328); simp [rowsLen] <;> omega) | (refine (?_ : _ ≤ 9223372036854775807); simp [rowsLen] <;> omega) | (refine (?_ : _ = rowsLen _); simp [rowsLen] <;> omega) | refine eqv_to _ (app_row rfl) (eqv_to _ app_len ?_) | refine eqv_to _ (app_first rfl) (eqv_to 1 rfl ?_) | refine idx_sl (at_map (by assumption)) (by omega) ?_ | refine idx_ms _ (by first | rfl | assumption) (by first | assumption | omega) ?_ | (change vcFun _ _ _ _ _; refine call_eq rfl (by repeat' (first | trivial | refine And.intro ?_ ?_ | (show 0 + _ ≤ List.length _; simp))) ALeL.refl (c_between a b) rfl ?_) | fail)
  all_goals first
    | (rw [pB_t (by assumption), Bool.true_and]; done)
    | (rw [pB_t (by assumption), Bool.true_and]; rfl)
    | (rw [pB_f (by assumption)]; rfl)
theorem c_rbetween (a b : Time) : PCall Tryz.prog 133 [ag a.row, ag b.row] (fun r => r = .tup [vint .i64 (btw a b), vbool (pB (meetP a b))]) := by
  refine acall_of tok mixed 30 rfl (fn := Tryz.f133) (c := Tryz.f133.body.getD .skip) (by kernel_rfl) (by kernel_rfl) (by kernel_rfl) rfl 0 rfl ?_
  repeat' (first | (refine (eqv_rfl ?_ : eqv (bits _ _ _ _) _)) | (refine eqv_wrap (by have h1 := sound_b (t := a) (by first | assumption | exact (And.left ‹meetP a b›)); have h2 := sound_b (t := b) (by first | assumption | exact (And.left (And.right ‹meetP a b›))); (try dsimp only [cond]); omega) (by have h1 := sound_b (t := a) (by first | assumption | exact (And.left ‹meetP a b›)); have h2 := sound_b (t := b) (by first | assumption | exact (And.left (And.right ‹meetP a b›))); (try dsimp only [cond]); omega) ?_) | refine o1 ?_ | refine o2 ?_ | refine k1 ?_ | refine k2 ?_ | refine k3 ?_ | refine k4 ?_ | refine k6 ?_ | refine k7 ?_ | refine k8 ?_ | refine And.intro ?_ ?_ | exact trivial | refine o3 ?_ | refine o4 ?_ | refine o5 ?_ | refine o6 ?_ | refine k5 ?_ | (intro h; first | exact Bool.noConfusion h | exact nz _ h | exact nl h | (simp at h; done) | (simp at h; first | (exfalso; omega) | skip) | skip) | (change retOk _ _ _ _; refine ret_pure rfl trivial ?_) | exact (rfl : allOne _ = true) | (refine (?_ : (0 : Int) ≤ _); omega) | (refine (?_ : _ ≠ _); omega) | (refine (?_ : srcLen _ = rowsLen _); rfl) | exact Nat.le_of_ble_eq_true rfl | exact (by kernel_rfl : drawOk _ _ = true) | refine eqv_len_map ?_ | refine eqv_size ?_ | refine eqv_put (eqv_ck ?_) | refine eqv_zero ?_ | refine eqv_wrap (by omega) (by omega) ?_ | refine eqv_u64 (by omega) (by omega) ?_ | refine eqv_u8 (by omega) (by omega) ?_ | refine eqv_to _ (set_map rfl rfl) ?_ | refine ⟨_, _, (by first | rfl | assumption), at_map (by assumption), ?_⟩ | refine ⟨_, _, (by first | rfl | assumption), (by assumption), ?_⟩ | refine ⟨_, at_map (by assumption), (by decide), ?_⟩ | refine ⟨_, at_map (by assumption), ?_⟩ | (refine (?_ : _ ≤ 140737488355328); simp [rowsLen] <;> omega) | (refine (?_ : _ ≤ 9223372036854775807); simp [rowsLen] <;> omega) | (refine (?_ : _ = rowsLen _); simp [rowsLen] <;> omega) | refine eqv_to _ (app_row rfl) (eqv_to _ app_len ?_) | refine eqv_to _ (app_first rfl) (eqv_to 1 rfl ?_) | refine idx_sl (at_map (by assumption)) (by omega) ?_ | refine idx_ms _ (by first | rfl | assumption) (by first | assumption | omega) ?_ | (change vcFun _ _ _ _ _; refine call_eq rfl (by repeat' (first | trivial | refine And.intro ?_ ?_ | (show 0 + _ ≤ List.length _; simp))) ALeL.refl (c_rmeet a b) rfl ?_) | (change vcFun _ _ _ _ _; refine call_eq rfl (by repeat' (first | trivial | refine And.intro ?_ ?_ | (show 0 + _ ≤ List.length _; simp))) ALeL.refl (c_rsound a) rfl ?_) | (change vcFun _ _ _ _ _; refine call_eq rfl (by repeat' (first | trivial | refine And.intro ?_ ?_ | (show 0 + _ ≤ List.length _; simp))) ALeL.refl (c_rsound b) rfl ?_) | (change vcFunD _ _ _ _ _; refine callD_eq rfl (by repeat' (first | trivial | refine And.intro ?_ ?_ | (show 0 + _ ≤ List.length _; simp))) ALeL.refl (c_rsound a) rfl ?_) | (change vcFunD _ _ _ _ _; refine callD_eq rfl (by repeat' (first | trivial | refine And.intro ?_ ?_ | (show 0 + _ ≤ List.length _; simp))) ALeL.refl (c_rsound b) rfl ?_) | fail)
  all_goals first
    | exact tup2 (btw_f (by first | assumption | (unfold meetP; simp_all))).symm (pB_f (by first | assumption | (unfold meetP; simp_all))).symm
    | (have hm : meetP a b := by first | assumption | exact ⟨by assumption, by assumption, by assumption, by assumption⟩
       refine tup2 ?_ (pB_t hm).symm
       rw [btw_t hm]
       have h1 := sound_b hm.1
       have h2 := sound_b hm.2.1
       simp only [mm, cond_true, cond_false]
       repeat' split
       all_goals omega)
theorem c_roverlap (a b : Time) : PCall Tryz.prog 87 [ag a.row, ag b.row] (fun r => r = vbool (pB (ovP a b))) := by
  refine acall_of tok mixed 18 rfl (fn := Tryz.f87) (c := Tryz.f87.body.getD .skip) (by kernel_rfl) (by kernel_rfl) (by kernel_rfl) rfl 0 rfl ?_
  rw [ov_btw]
  repeat' (first | refine o1 ?_ | refine o2 ?_ | refine k1 ?_ | refine k2 ?_ | refine k3 ?_ | refine k4 ?_ | refine k6 ?_ | refine k7 ?_ | refine k8 ?_ | refine And.intro ?_ ?_ | exact trivial | refine o3 ?_ | refine o4 ?_ | refine o5 ?_ | refine o6 ?_ | refine k5 ?_ | (intro h; first | exact Bool.noConfusion h | exact nz _ h | exact nl h | (simp at h; done) | (simp at h; first | (exfalso; omega) | skip) | skip) | (change retOk _ _ _ _; refine ret_pure rfl trivial ?_) | exact (rfl : allOne _ = true) | (refine (?_ : (0 : Int) ≤ _); omega) | (refine (?_ : _ ≠ _); omega) | (refine (?_ : srcLen _ = rowsLen _); rfl) | exact Nat.le_of_ble_eq_true rfl | exact (by kernel_rfl : drawOk _ _ = true) | refine eqv_len_map ?_ | refine eqv_size ?_ | refine eqv_put (eqv_ck ?_) | refine eqv_zero ?_ | refine eqv_wrap (by omega) (by omega) ?_ | refine eqv_u64 (by omega) (by omega) ?_ | refine eqv_u8 (by omega) (by omega) ?_ | refine eqv_to _ (set_map rfl rfl) ?_ | refine ⟨_, _, (by first | rfl | assumption), at_map (by assumption), ?_⟩ | refine ⟨_, _, (by first | rfl | assumption), (by assumption), ?_⟩ | refine ⟨_, at_map (by assumption), (by decide), ?_⟩ | refine ⟨_, at_map (by assumption), ?_⟩ | (refine (?_ : _ ≤ 140737488355328); simp [rowsLen] <;> omega) | (refine (?_ : _ ≤ 9223372036854775807); simp [rowsLen] <;> omega) | (refine (?_ : _ = rowsLen _); simp [rowsLen] <;> omega) | refine eqv_to _ (app_row rfl) (eqv_to _ app_len ?_) | refine eqv_to _ (app_first rfl) (eqv_to 1 rfl ?_) | refine idx_sl (at_map (by assumption)) (by omega) ?_ | refine idx_ms _ (by first | rfl | assumption) (by first | assumption | omega) ?_ | (change vcFun _ _ _ _ _; refine call_eq rfl (by repeat' (first | trivial | refine And.intro ?_ ?_ | (show 0 + _ ≤ List.length _; simp))) ALeL.refl (c_rbetween a b) rfl ?_) | fail)
  all_goals first
    | (rw [pB_t (by assumption), Bool.true_and]; done)
    | (rw [pB_t (by assumption), Bool.true_and]; rfl)
    | (rw [pB_f (by assumption)]; rfl)

noncomputable def timeOf (s : Sitting) : Time := if pB (timedP s) then ⟨2 ^ (s.day / 7).toNat, s.day % 7, s.start, s.len⟩ else ⟨0, 0, 0, 0⟩
theorem timeOf_t {s : Sitting} (h : timedP s) : timeOf s = ⟨2 ^ (s.day / 7).toNat, s.day % 7, s.start, s.len⟩ := by unfold timeOf; rw [pB_t h, if_pos rfl]
theorem timeOf_f {s : Sitting} (h : ¬ timedP s) : timeOf s = ⟨0, 0, 0, 0⟩ := by unfold timeOf; rw [pB_f h]; rfl
theorem row_eq {a b : Time} (h : a = b) : ag a.row = ag b.row := by rw [h]
theorem tdiv7 {d : Int} (h : 0 ≤ d) : d.tdiv 7 = d / 7 := Int.tdiv_eq_ediv_of_nonneg h
theorem tmod7 {d : Int} (h : 0 ≤ d) : d.tmod 7 = d % 7 := Int.tmod_eq_emod_of_nonneg h
theorem timed_b {s : Sitting} (h : timedP s) : 0 ≤ s.day ∧ s.day < 140 := ⟨h.1, h.2.1⟩
theorem eqv_quo7 {d : Int} {K : Int → Prop} (h : 0 ≤ d ∧ d < 140) (hk : K (d / 7)) : eqv (IntKind.i64.wrap (d.tdiv 7)) K := by
  rw [tdiv7 h.1]; exact eqv_wrap (by omega) (by omega) hk
theorem eqv_rem7 {d : Int} {K : Int → Prop} (h : 0 ≤ d ∧ d < 140) (hk : K (d % 7)) : eqv (d.tmod 7) K := by
  rw [tmod7 h.1]; exact ⟨_, rfl, hk⟩
theorem c_time (s : Sitting) : PCall Tryz.prog 12 [ag s.row] (fun r => r = ag (timeOf s).row) := by
  refine acall_of tok mixed 19 rfl (fn := Tryz.f12) (c := Tryz.f12.body.getD .skip) (by kernel_rfl) (by kernel_rfl) (by kernel_rfl) rfl 0 rfl ?_
  repeat' (first | (refine eqv_quo7 (timed_b (by assumption)) ?_) | (refine eqv_rem7 (timed_b (by assumption)) ?_) | (refine eqv_u64 (by have := timed_b (s := s) (by assumption); omega) (by have := timed_b (s := s) (by assumption); omega) ?_) | (refine eqv_shl (by have := timed_b (s := s) (by assumption); omega) ?_) | refine o1 ?_ | refine o2 ?_ | refine k1 ?_ | refine k2 ?_ | refine k3 ?_ | refine k4 ?_ | refine k6 ?_ | refine k7 ?_ | refine k8 ?_ | refine And.intro ?_ ?_ | exact trivial | refine o3 ?_ | refine o4 ?_ | refine o5 ?_ | refine o6 ?_ | refine k5 ?_ | (intro h; first | exact Bool.noConfusion h | exact nz _ h | exact nl h | (simp at h; done) | (simp at h; first | (exfalso; omega) | skip) | skip) | (change retOk _ _ _ _; refine ret_pure rfl trivial ?_) | exact (rfl : allOne _ = true) | (refine (?_ : (0 : Int) ≤ _); omega) | (refine (?_ : _ ≠ _); omega) | (refine (?_ : srcLen _ = rowsLen _); rfl) | exact Nat.le_of_ble_eq_true rfl | exact (by kernel_rfl : drawOk _ _ = true) | refine eqv_len_map ?_ | refine eqv_size ?_ | refine eqv_put (eqv_ck ?_) | refine eqv_zero ?_ | refine eqv_wrap (by omega) (by omega) ?_ | refine eqv_u64 (by omega) (by omega) ?_ | refine eqv_u8 (by omega) (by omega) ?_ | refine eqv_to _ (set_map rfl rfl) ?_ | refine ⟨_, _, (by first | rfl | assumption), at_map (by assumption), ?_⟩ | refine ⟨_, _, (by first | rfl | assumption), (by assumption), ?_⟩ | refine ⟨_, at_map (by assumption), (by decide), ?_⟩ | refine ⟨_, at_map (by assumption), ?_⟩ | (refine (?_ : _ ≤ 140737488355328); simp [rowsLen] <;> omega) | (refine (?_ : _ ≤ 9223372036854775807); simp [rowsLen] <;> omega) | (refine (?_ : _ = rowsLen _); simp [rowsLen] <;> omega) | refine eqv_to _ (app_row rfl) (eqv_to _ app_len ?_) | refine eqv_to _ (app_first rfl) (eqv_to 1 rfl ?_) | refine idx_sl (at_map (by assumption)) (by omega) ?_ | refine idx_ms _ (by first | rfl | assumption) (by first | assumption | omega) ?_ | (change vcFun _ _ _ _ _; refine call_eq rfl (by repeat' (first | trivial | refine And.intro ?_ ?_ | (show 0 + _ ≤ List.length _; simp))) ALeL.refl (c_timed s) rfl ?_) | fail)
  all_goals first
    | (rw [timeOf_f (by assumption)]; rfl)
    | (rw [timeOf_t (by assumption)]; rfl)
    | (show (0 : Int) ≤ s.day / 7; have := timed_b (s := s) (by assumption); omega)
theorem c_rtime (s : Sitting) : PCall Tryz.prog 13 [ag s.row] (fun r => r = ag (timeOf s).row) := by
  refine acall_of tok mixed 20 rfl (fn := Tryz.f13) (c := Tryz.f13.body.getD .skip) (by kernel_rfl) (by kernel_rfl) (by kernel_rfl) rfl 0 rfl ?_
  repeat' (first | (refine eqv_quo7 (timed_b (by assumption)) ?_) | (refine eqv_rem7 (timed_b (by assumption)) ?_) | (refine eqv_u64 (by have := timed_b (s := s) (by assumption); omega) (by have := timed_b (s := s) (by assumption); omega) ?_) | (refine eqv_shl (by have := timed_b (s := s) (by assumption); omega) ?_) | refine o1 ?_ | refine o2 ?_ | refine k1 ?_ | refine k2 ?_ | refine k3 ?_ | refine k4 ?_ | refine k6 ?_ | refine k7 ?_ | refine k8 ?_ | refine And.intro ?_ ?_ | exact trivial | refine o3 ?_ | refine o4 ?_ | refine o5 ?_ | refine o6 ?_ | refine k5 ?_ | (intro h; first | exact Bool.noConfusion h | exact nz _ h | exact nl h | (simp at h; done) | (simp at h; first | (exfalso; omega) | skip) | skip) | (change retOk _ _ _ _; refine ret_pure rfl trivial ?_) | exact (rfl : allOne _ = true) | (refine (?_ : (0 : Int) ≤ _); omega) | (refine (?_ : _ ≠ _); omega) | (refine (?_ : srcLen _ = rowsLen _); rfl) | exact Nat.le_of_ble_eq_true rfl | exact (by kernel_rfl : drawOk _ _ = true) | refine eqv_len_map ?_ | refine eqv_size ?_ | refine eqv_put (eqv_ck ?_) | refine eqv_zero ?_ | refine eqv_wrap (by omega) (by omega) ?_ | refine eqv_u64 (by omega) (by omega) ?_ | refine eqv_u8 (by omega) (by omega) ?_ | refine eqv_to _ (set_map rfl rfl) ?_ | refine ⟨_, _, (by first | rfl | assumption), at_map (by assumption), ?_⟩ | refine ⟨_, _, (by first | rfl | assumption), (by assumption), ?_⟩ | refine ⟨_, at_map (by assumption), (by decide), ?_⟩ | refine ⟨_, at_map (by assumption), ?_⟩ | (refine (?_ : _ ≤ 140737488355328); simp [rowsLen] <;> omega) | (refine (?_ : _ ≤ 9223372036854775807); simp [rowsLen] <;> omega) | (refine (?_ : _ = rowsLen _); simp [rowsLen] <;> omega) | refine eqv_to _ (app_row rfl) (eqv_to _ app_len ?_) | refine eqv_to _ (app_first rfl) (eqv_to 1 rfl ?_) | refine idx_sl (at_map (by assumption)) (by omega) ?_ | refine idx_ms _ (by first | rfl | assumption) (by first | assumption | omega) ?_ | (change vcFun _ _ _ _ _; refine call_eq rfl (by repeat' (first | trivial | refine And.intro ?_ ?_ | (show 0 + _ ≤ List.length _; simp))) ALeL.refl (c_rtimed s) rfl ?_) | fail)
  all_goals first
    | (rw [timeOf_f (by assumption)]; rfl)
    | (rw [timeOf_t (by assumption)]; rfl)
    | (show (0 : Int) ≤ s.day / 7; have := timed_b (s := s) (by assumption); omega)
theorem has_f {l : List Str} {s : Str} (h : ∀ j, j < l.length → ∀ q, l[j]? = some q → q ≠ s) : ¬ s ∈ l := fun hs => by
  obtain ⟨j, hj⟩ := List.getElem?_of_mem hs
  exact h j (List.getElem?_eq_some_iff.1 hj).1 s hj rfl
theorem c_has (l : List Str) (s : Str) (hl : l.length ≤ 100000) : PCall Tryz.prog 68 [.pv (encStrs l), .pv (es s)] (fun r => r = vbool (pB (s ∈ l))) := by
  refine acall_of tok mixed 18 rfl (fn := Tryz.f68) (c := Tryz.f68.body.getD .skip) (by kernel_rfl) (by kernel_rfl) (by kernel_rfl) rfl 0 rfl ?_
  repeat' (first | refine o1 ?_ | refine o2 ?_ | refine k1 ?_ | refine k2 ?_ | refine k3 ?_ | refine k4 ?_ | refine k6 ?_ | refine k7 ?_ | refine k8 ?_ | refine And.intro ?_ ?_ | exact trivial | refine o3 ?_ | refine o4 ?_ | refine o5 ?_ | refine o6 ?_ | refine k5 ?_ | (intro h; first | exact Bool.noConfusion h | exact nz _ h | exact nl h | (simp at h; done) | (simp at h; first | (exfalso; omega) | skip) | skip) | (change retOk _ _ _ _; refine ret_pure rfl trivial ?_) | exact (rfl : allOne _ = true) | (refine (?_ : (0 : Int) ≤ _); omega) | (refine (?_ : _ ≠ _); omega) | (refine (?_ : srcLen _ = rowsLen _); rfl) | exact Nat.le_of_ble_eq_true rfl | exact (by kernel_rfl : drawOk _ _ = true) | refine eqv_len_map ?_ | refine eqv_size ?_ | refine eqv_put (eqv_ck ?_) | refine eqv_zero ?_ | refine eqv_wrap (by omega) (by omega) ?_ | refine eqv_u64 (by omega) (by omega) ?_ | refine eqv_u8 (by omega) (by omega) ?_ | refine eqv_to _ (set_map rfl rfl) ?_ | refine ⟨_, _, (by first | rfl | assumption), at_map (by assumption), ?_⟩ | refine ⟨_, _, (by first | rfl | assumption), (by assumption), ?_⟩ | refine ⟨_, at_map (by assumption), (by decide), ?_⟩ | refine ⟨_, at_map (by assumption), ?_⟩ | (refine (?_ : _ ≤ 140737488355328); simp [rowsLen] <;> omega) | (refine (?_ : _ ≤ 9223372036854775807); simp [rowsLen] <;> omega) | (refine (?_ : _ = rowsLen _); simp [rowsLen] <;> omega) | refine eqv_to _ (app_row rfl) (eqv_to _ app_len ?_) | refine eqv_to _ (app_first rfl) (eqv_to 1 rfl ?_) | refine idx_sl (at_map (by assumption)) (by omega) ?_ | refine idx_ms _ (by first | rfl | assumption) (by first | assumption | omega) ?_ | fail)
  refine loop_at (fun i : Nat => [(5, vint .i64 i)]) (fun _ => []) (fun i => i ≤ l.length ∧ ∀ j, j < i → ∀ q, l[j]? = some q → q ≠ s) (fun i => l.length - i) 0 ⟨by omega, fun j hj => by omega⟩ (by repeat' (first | exact trivial | exact rfl | exact ⟨_, rfl, ALe.refl⟩ | refine And.intro ?_ ?_)) (by repeat' (first | exact trivial | exact rfl | exact ⟨_, rfl, ALe.refl⟩ | refine And.intro ?_ ?_)) ?_
  intro i ⟨hi, hall⟩
  rcases Nat.lt_or_ge i l.length with hlt | hge
  · obtain ⟨q, hq⟩ := getE hlt
    repeat' (first | refine o1 ?_ | refine o2 ?_ | refine k1 ?_ | refine k2 ?_ | refine k3 ?_ | refine k4 ?_ | refine k6 ?_ | refine k7 ?_ | refine k8 ?_ | refine And.intro ?_ ?_ | exact trivial | refine o3 ?_ | refine o4 ?_ | refine o5 ?_ | refine o6 ?_ | refine k5 ?_ | (intro h; first | exact Bool.noConfusion h | exact nz _ h | exact nl h | (simp at h; done) | (simp at h; first | (exfalso; omega) | skip) | skip) | (change retOk _ _ _ _; refine ret_pure rfl trivial ?_) | exact (rfl : allOne _ = true) | (refine (?_ : (0 : Int) ≤ _); omega) | (refine (?_ : _ ≠ _); omega) | (refine (?_ : srcLen _ = rowsLen _); rfl) | exact Nat.le_of_ble_eq_true rfl | exact (by kernel_rfl : drawOk _ _ = true) | refine eqv_len_map ?_ | refine eqv_size ?_ | refine eqv_put (eqv_ck ?_) | refine eqv_zero ?_ | refine eqv_wrap (by omega) (by omega) ?_ | refine eqv_u64 (by omega) (by omega) ?_ | refine eqv_u8 (by omega) (by omega) ?_ | refine eqv_to _ (set_map rfl rfl) ?_ | refine ⟨_, _, (by first | rfl | assumption), at_map (by assumption), ?_⟩ | refine ⟨_, _, (by first | rfl | assumption), (by assumption), ?_⟩ | refine ⟨_, at_map (by assumption), (by decide), ?_⟩ | refine ⟨_, at_map (by assumption), ?_⟩ | (refine (?_ : _ ≤ 140737488355328); simp [rowsLen] <;> omega) | (refine (?_ : _ ≤ 9223372036854775807); simp [rowsLen] <;> omega) | (refine (?_ : _ = rowsLen _); simp [rowsLen] <;> omega) | refine eqv_to _ (app_row rfl) (eqv_to _ app_len ?_) | refine eqv_to _ (app_first rfl) (eqv_to 1 rfl ?_) | refine idx_sl (at_map (by assumption)) (by omega) ?_ | refine idx_ms _ (by first | rfl | assumption) (by first | assumption | omega) ?_ | fail)
    all_goals first
      | exact congrArg vbool (pB_t (by rw [← sEq_iff.1 (by assumption : sEq q s = true)]; exact List.mem_of_getElem? hq)).symm
      | exact ⟨i + 1, ⟨by omega, all_lt_succ hall fun q' h' => by rw [hq] at h'; cases h'; exact sEq_f.1 (by assumption)⟩, by omega, back [] rfl rfl trivial (by repeat' (first | exact trivial | exact rfl | exact ⟨_, rfl, ALe.refl⟩ | refine And.intro ?_ ?_))⟩
  · repeat' (first | refine o1 ?_ | refine o2 ?_ | refine k1 ?_ | refine k2 ?_ | refine k3 ?_ | refine k4 ?_ | refine k6 ?_ | refine k7 ?_ | refine k8 ?_ | refine And.intro ?_ ?_ | exact trivial | refine o3 ?_ | refine o4 ?_ | refine o5 ?_ | refine o6 ?_ | refine k5 ?_ | (intro h; first | exact Bool.noConfusion h | exact nz _ h | exact nl h | (simp at h; done) | (simp at h; first | (exfalso; omega) | skip) | skip) | (change retOk _ _ _ _; refine ret_pure rfl trivial ?_) | exact (rfl : allOne _ = true) | (refine (?_ : (0 : Int) ≤ _); omega) | (refine (?_ : _ ≠ _); omega) | (refine (?_ : srcLen _ = rowsLen _); rfl) | exact Nat.le_of_ble_eq_true rfl | exact (by kernel_rfl : drawOk _ _ = true) | refine eqv_len_map ?_ | refine eqv_size ?_ | refine eqv_put (eqv_ck ?_) | refine eqv_zero ?_ | refine eqv_wrap (by omega) (by omega) ?_ | refine eqv_u64 (by omega) (by omega) ?_ | refine eqv_u8 (by omega) (by omega) ?_ | refine eqv_to _ (set_map rfl rfl) ?_ | refine ⟨_, _, (by first | rfl | assumption), at_map (by assumption), ?_⟩ | refine ⟨_, _, (by first | rfl | assumption), (by assumption), ?_⟩ | refine ⟨_, at_map (by assumption), (by decide), ?_⟩ | refine ⟨_, at_map (by assumption), ?_⟩ | (refine (?_ : _ ≤ 140737488355328); simp [rowsLen] <;> omega) | (refine (?_ : _ ≤ 9223372036854775807); simp [rowsLen] <;> omega) | (refine (?_ : _ = rowsLen _); simp [rowsLen] <;> omega) | refine eqv_to _ (app_row rfl) (eqv_to _ app_len ?_) | refine eqv_to _ (app_first rfl) (eqv_to 1 rfl ?_) | refine idx_sl (at_map (by assumption)) (by omega) ?_ | refine idx_ms _ (by first | rfl | assumption) (by first | assumption | omega) ?_ | fail)
    exact congrArg vbool (pB_f (has_f fun j hj => hall j (by omega))).symm

noncomputable def idxS (l : List Str) (s : Str) : Int := idxB (fun q => pB (q = s)) l
theorem idxS_has {l : List Str} {s : Str} : decide (idxS l s ≥ 0) = pB (s ∈ l) := by
  unfold idxS
  rw [idxB_any]
  by_cases h : s ∈ l
  · rw [pB_t h]; exact List.any_eq_true.2 ⟨s, h, pB_t rfl⟩
  · rw [pB_f h]; exact List.any_eq_false.2 fun q hq => by rw [pB_f (fun e : q = s => h (e ▸ hq))]; simp
theorem c_index (l : List Str) (s : Str) (hl : l.length ≤ 100000) : PCall Tryz.prog 134 [.pv (encStrs l), .pv (es s)] (fun r => r = vint .i64 (idxS l s)) := by
  refine acall_of tok mixed 19 rfl (fn := Tryz.f134) (c := Tryz.f134.body.getD .skip) (by kernel_rfl) (by kernel_rfl) (by kernel_rfl) rfl 0 rfl ?_
  repeat' (first | refine o1 ?_ | refine o2 ?_ | refine k1 ?_ | refine k2 ?_ | refine k3 ?_ | refine k4 ?_ | refine k6 ?_ | refine k7 ?_ | refine k8 ?_ | refine And.intro ?_ ?_ | exact trivial | refine o3 ?_ | refine o4 ?_ | refine o5 ?_ | refine o6 ?_ | refine k5 ?_ | (intro h; first | exact Bool.noConfusion h | exact nz _ h | exact nl h | (simp at h; done) | (simp at h; first | (exfalso; omega) | skip) | skip) | (change retOk _ _ _ _; refine ret_pure rfl trivial ?_) | exact (rfl : allOne _ = true) | (refine (?_ : (0 : Int) ≤ _); omega) | (refine (?_ : _ ≠ _); omega) | (refine (?_ : srcLen _ = rowsLen _); rfl) | exact Nat.le_of_ble_eq_true rfl | exact (by kernel_rfl : drawOk _ _ = true) | refine eqv_len_map ?_ | refine eqv_size ?_ | refine eqv_put (eqv_ck ?_) | refine eqv_zero ?_ | refine eqv_wrap (by omega) (by omega) ?_ | refine eqv_u64 (by omega) (by omega) ?_ | refine eqv_u8 (by omega) (by omega) ?_ | refine eqv_to _ (set_map rfl rfl) ?_ | refine ⟨_, _, (by first | rfl | assumption), at_map (by assumption), ?_⟩ | refine ⟨_, _, (by first | rfl | assumption), (by assumption), ?_⟩ | refine ⟨_, at_map (by assumption), (by decide), ?_⟩ | refine ⟨_, at_map (by assumption), ?_⟩ | (refine (?_ : _ ≤ 140737488355328); simp [rowsLen] <;> omega) | (refine (?_ : _ ≤ 9223372036854775807); simp [rowsLen] <;> omega) | (refine (?_ : _ = rowsLen _); simp [rowsLen] <;> omega) | refine eqv_to _ (app_row rfl) (eqv_to _ app_len ?_) | refine eqv_to _ (app_first rfl) (eqv_to 1 rfl ?_) | refine idx_sl (at_map (by assumption)) (by omega) ?_ | refine idx_ms _ (by first | rfl | assumption) (by first | assumption | omega) ?_ | fail)
  refine loop_at (fun i : Nat => [(8, vint .i64 i)]) (fun _ => []) (fun i => i ≤ l.length ∧ ∀ j, j < i → ∀ q, l[j]? = some q → pB (q = s) = false) (fun i => l.length - i) 0 ⟨by omega, fun j hj => by omega⟩ (by repeat' (first | exact trivial | exact rfl | exact ⟨_, rfl, ALe.refl⟩ | refine And.intro ?_ ?_)) (by repeat' (first | exact trivial | exact rfl | exact ⟨_, rfl, ALe.refl⟩ | refine And.intro ?_ ?_)) ?_
  intro i ⟨hi, hall⟩
  rcases Nat.lt_or_ge i l.length with hlt | hge
  · obtain ⟨q, hq⟩ := getE hlt
    repeat' (first | refine o1 ?_ | refine o2 ?_ | refine k1 ?_ | refine k2 ?_ | refine k3 ?_ | refine k4 ?_ | refine k6 ?_ | refine k7 ?_ | refine k8 ?_ | refine And.intro ?_ ?_ | exact trivial | refine o3 ?_ | refine o4 ?_ | refine o5 ?_ | refine o6 ?_ | refine k5 ?_ | (intro h; first | exact Bool.noConfusion h | exact nz _ h | exact nl h | (simp at h; done) | (simp at h; first | (exfalso; omega) | skip) | skip) | (change retOk _ _ _ _; refine ret_pure rfl trivial ?_) | exact (rfl : allOne _ = true) | (refine (?_ : (0 : Int) ≤ _); omega) | (refine (?_ : _ ≠ _); omega) | (refine (?_ : srcLen _ = rowsLen _); rfl) | exact Nat.le_of_ble_eq_true rfl | exact (by kernel_rfl : drawOk _ _ = true) | refine eqv_len_map ?_ | refine eqv_size ?_ | refine eqv_put (eqv_ck ?_) | refine eqv_zero ?_ | refine eqv_wrap (by omega) (by omega) ?_ | refine eqv_u64 (by omega) (by omega) ?_ | refine eqv_u8 (by omega) (by omega) ?_ | refine eqv_to _ (set_map rfl rfl) ?_ | refine ⟨_, _, (by first | rfl | assumption), at_map (by assumption), ?_⟩ | refine ⟨_, _, (by first | rfl | assumption), (by assumption), ?_⟩ | refine ⟨_, at_map (by assumption), (by decide), ?_⟩ | refine ⟨_, at_map (by assumption), ?_⟩ | (refine (?_ : _ ≤ 140737488355328); simp [rowsLen] <;> omega) | (refine (?_ : _ ≤ 9223372036854775807); simp [rowsLen] <;> omega) | (refine (?_ : _ = rowsLen _); simp [rowsLen] <;> omega) | refine eqv_to _ (app_row rfl) (eqv_to _ app_len ?_) | refine eqv_to _ (app_first rfl) (eqv_to 1 rfl ?_) | refine idx_sl (at_map (by assumption)) (by omega) ?_ | refine idx_ms _ (by first | rfl | assumption) (by first | assumption | omega) ?_ | fail)
    all_goals first
      | exact congrArg (vint .i64) (idxB_at hall hq (pB_t (sEq_iff.1 (by assumption)).symm)).symm
      | exact ⟨i + 1, ⟨by omega, all_lt_succ hall fun q' h' => by rw [hq] at h'; cases h'; exact pB_f fun e => sEq_f.1 (by assumption) e.symm⟩, by omega, back [] rfl rfl trivial (by repeat' (first | exact trivial | exact rfl | exact ⟨_, rfl, ALe.refl⟩ | refine And.intro ?_ ?_))⟩
  · repeat' (first | refine o1 ?_ | refine o2 ?_ | refine k1 ?_ | refine k2 ?_ | refine k3 ?_ | refine k4 ?_ | refine k6 ?_ | refine k7 ?_ | refine k8 ?_ | refine And.intro ?_ ?_ | exact trivial | refine o3 ?_ | refine o4 ?_ | refine o5 ?_ | refine o6 ?_ | refine k5 ?_ | (intro h; first | exact Bool.noConfusion h | exact nz _ h | exact nl h | (simp at h; done) | (simp at h; first | (exfalso; omega) | skip) | skip) | (change retOk _ _ _ _; refine ret_pure rfl trivial ?_) | exact (rfl : allOne _ = true) | (refine (?_ : (0 : Int) ≤ _); omega) | (refine (?_ : _ ≠ _); omega) | (refine (?_ : srcLen _ = rowsLen _); rfl) | exact Nat.le_of_ble_eq_true rfl | exact (by kernel_rfl : drawOk _ _ = true) | refine eqv_len_map ?_ | refine eqv_size ?_ | refine eqv_put (eqv_ck ?_) | refine eqv_zero ?_ | refine eqv_wrap (by omega) (by omega) ?_ | refine eqv_u64 (by omega) (by omega) ?_ | refine eqv_u8 (by omega) (by omega) ?_ | refine eqv_to _ (set_map rfl rfl) ?_ | refine ⟨_, _, (by first | rfl | assumption), at_map (by assumption), ?_⟩ | refine ⟨_, _, (by first | rfl | assumption), (by assumption), ?_⟩ | refine ⟨_, at_map (by assumption), (by decide), ?_⟩ | refine ⟨_, at_map (by assumption), ?_⟩ | (refine (?_ : _ ≤ 140737488355328); simp [rowsLen] <;> omega) | (refine (?_ : _ ≤ 9223372036854775807); simp [rowsLen] <;> omega) | (refine (?_ : _ = rowsLen _); simp [rowsLen] <;> omega) | refine eqv_to _ (app_row rfl) (eqv_to _ app_len ?_) | refine eqv_to _ (app_first rfl) (eqv_to 1 rfl ?_) | refine idx_sl (at_map (by assumption)) (by omega) ?_ | refine idx_ms _ (by first | rfl | assumption) (by first | assumption | omega) ?_ | fail)
    all_goals first
      | exact congrArg (vint .i64) (idxB_none fun j hj => hall j (by omega)).symm
theorem c_contains (l : List Str) (s : Str) (hl : l.length ≤ 100000) : PCall Tryz.prog 88 [.pv (encStrs l), .pv (es s)] (fun r => r = vbool (pB (s ∈ l))) := by
  refine acall_of tok mixed 9 rfl (fn := Tryz.f88) (c := Tryz.f88.body.getD .skip) (by kernel_rfl) (by kernel_rfl) (by kernel_rfl) rfl 0 rfl ?_
  repeat' (first | refine o1 ?_ | refine o2 ?_ | refine k1 ?_ | refine k2 ?_ | refine k3 ?_ | refine k4 ?_ | refine k6 ?_ | refine k7 ?_ | refine k8 ?_ | refine And.intro ?_ ?_ | exact trivial | refine o3 ?_ | refine o4 ?_ | refine o5 ?_ | refine o6 ?_ | refine k5 ?_ | (intro h; first | exact Bool.noConfusion h | exact nz _ h | exact nl h | (simp at h; done) | (simp at h; first | (exfalso; omega) | skip) | skip) | (change retOk _ _ _ _; refine ret_pure rfl trivial ?_) | exact (rfl : allOne _ = true) | (refine (?_ : (0 : Int) ≤ _); omega) | (refine (?_ : _ ≠ _); omega) | (refine (?_ : srcLen _ = rowsLen _); rfl) | exact Nat.le_of_ble_eq_true rfl | exact (by kernel_rfl : drawOk _ _ = true) | refine eqv_len_map ?_ | refine eqv_size ?_ | refine eqv_put (eqv_ck ?_) | refine eqv_zero ?_ | refine eqv_wrap (by omega) (by omega) ?_ | refine eqv_u64 (by omega) (by omega) ?_ | refine eqv_u8 (by omega) (by omega) ?_ | refine eqv_to _ (set_map rfl rfl) ?_ | refine ⟨_, _, (by first | rfl | assumption), at_map (by assumption), ?_⟩ | refine ⟨_, _, (by first | rfl | assumption), (by assumption), ?_⟩ | refine ⟨_, at_map (by assumption), (by decide), ?_⟩ | refine ⟨_, at_map (by assumption), ?_⟩ | (refine (?_ : _ ≤ 140737488355328); simp [rowsLen] <;> omega) | (refine (?_ : _ ≤ 9223372036854775807); simp [rowsLen] <;> omega) | (refine (?_ : _ = rowsLen _); simp [rowsLen] <;> omega) | refine eqv_to _ (app_row rfl) (eqv_to _ app_len ?_) | refine eqv_to _ (app_first rfl) (eqv_to 1 rfl ?_) | refine idx_sl (at_map (by assumption)) (by omega) ?_ | refine idx_ms _ (by first | rfl | assumption) (by first | assumption | omega) ?_ | (change vcFun _ _ _ _ _; refine call_eq rfl (by repeat' (first | trivial | refine And.intro ?_ ?_ | (show 0 + _ ≤ List.length _; simp))) ALeL.refl (c_index l s hl) rfl ?_) | fail)
  exact congrArg vbool idxS_has
end Go.Proofs.YtpnghlibmpainaaGreat.Cw

/-
  Plain laws: what valid examinations are; lists without duplicates.
-/
namespace Go.Proofs.YtpnghlibmpainaaGreat.Cw
open Go.Cw Go.Proofs
set_option linter.unusedVariables false
set_option maxRecDepth 100000

theorem bl_trans : ∀ {x y z : List UInt8}, Op.bytesLess x y = true → Op.bytesLess y z = true → Op.bytesLess x z = true
  | _, _, [], _, h => by cases ‹List UInt8› <;> simp [Op.bytesLess] at h
  | [], _, _ :: _, _, _ => by simp [Op.bytesLess]
  | _ :: _, [], _ :: _, h, _ => by simp [Op.bytesLess] at h
  | a :: x, b :: y, c :: z, h1, h2 => by
    simp only [Op.bytesLess, Bool.or_eq_true, decide_eq_true_eq, Bool.and_eq_true, beq_iff_eq] at h1 h2 ⊢
    rcases h1 with h1 | ⟨rfl, h1⟩
    · rcases h2 with h2 | ⟨rfl, h2⟩
      · exact .inl (UInt8.lt_trans h1 h2)
      · exact .inl h1
    · rcases h2 with h2 | ⟨rfl, h2⟩
      · exact .inl h2
      · exact .inr ⟨rfl, bl_trans h1 h2⟩
theorem bl_irr : ∀ {x : List UInt8}, Op.bytesLess x x = false
  | [] => rfl
  | a :: x => by simp [Op.bytesLess, bl_irr (x := x), UInt8.lt_irrefl]
theorem bl_total : ∀ {x y : List UInt8}, Op.bytesLess x y = false → (x == y) = false → Op.bytesLess y x = true
  | [], [], _, h => by simp at h
  | [], _ :: _, h, _ => by simp [Op.bytesLess] at h
  | _ :: _, [], _, _ => by simp [Op.bytesLess]
  | a :: x, b :: y, h1, h2 => by
    simp only [Op.bytesLess, Bool.or_eq_false_iff, decide_eq_false_iff_not, Bool.and_eq_false_iff] at h1
    simp only [Op.bytesLess, Bool.or_eq_true, decide_eq_true_eq, Bool.and_eq_true, beq_iff_eq]
    by_cases e : a = b
    · subst e
      right
      refine ⟨rfl, bl_total ?_ ?_⟩
      · rcases h1.2 with h | h
        · simp at h
        · exact h
      · simpa using h2
    · left
      have h3 := h1.1
      have h4 : a.toNat ≠ b.toNat := fun h => e (UInt8.toNat_inj.1 h)
      simp only [UInt8.lt_iff_toNat_lt] at h3 ⊢
      omega
theorem sLt_of {s p : Str} (h : sLe s p = false) : sLt p s = true := by
  unfold sLe at h
  simp only [Bool.or_eq_false_iff] at h
  exact bl_total h.1 h.2
theorem ris_lt {l : List Str} (h : risP l) : ∀ {i j : Nat} {p q : Str}, i < j → l[i]? = some p → l[j]? = some q → sLt p q = true
  | i, 0, _, _, hij, _, _ => by omega
  | i, j + 1, p, q, hij, hp, hq => by
    have hj := (List.getElem?_eq_some_iff.1 hq).1
    obtain ⟨m, hm⟩ := getE (show j < l.length by omega)
    have h1 := sLt_of (h j hj q m hq hm)
    rcases Nat.lt_or_ge i j with h2 | h2
    · exact bl_trans (ris_lt h h2 hp hm) h1
    · have : i = j := by omega
      subst this
      rw [hp] at hm; injection hm with hm; subst hm; exact h1
theorem ris_nodup {l : List Str} (h : risP l) : l.Nodup := by
  refine List.pairwise_iff_getElem.2 fun i j hi hj hij e => ?_
  have := ris_lt h hij (List.getElem?_eq_getElem hi) (List.getElem?_eq_getElem hj)
  rw [e] at this
  unfold sLt at this
  rw [bl_irr] at this; cases this

noncomputable def comN (a b : List Str) : Nat := a.countP (fun s => pB (s ∈ b))
theorem nodup_len {α : Type} [DecidableEq α] : ∀ {a b : List α}, a.Nodup → (∀ s ∈ a, s ∈ b) → a.length ≤ b.length
  | [], _, _, _ => Nat.zero_le _
  | x :: a, b, h, hs => by
    have hx : x ∈ b := hs x (by simp)
    have h1 := nodup_len (a := a) (b := b.erase x) (List.nodup_cons.1 h).2 fun s hsa => by
      have : s ≠ x := fun e => (List.nodup_cons.1 h).1 (e ▸ hsa)
      exact (List.mem_erase_of_ne this).2 (hs s (by simp [hsa]))
    rw [List.length_erase_of_mem hx] at h1
    have := List.length_pos_of_mem hx
    simp only [List.length_cons]; omega
theorem comN_le {a b : List Str} (ha : a.Nodup) : comN a b ≤ comN b a := by
  unfold comN
  rw [List.countP_eq_length_filter, List.countP_eq_length_filter]
  refine nodup_len (ha.filter _) fun s hs => ?_
  simp only [List.mem_filter] at hs ⊢
  exact ⟨by simpa using hs.2, by simpa using hs.1⟩
theorem comN_comm {a b : List Str} (ha : a.Nodup) (hb : b.Nodup) : comN a b = comN b a := Nat.le_antisymm (comN_le ha) (comN_le hb)

def sortP (l : List Sitting) : Prop := ∀ (i j : Nat) p q, i < j → l[i]? = some p → l[j]? = some q → lexP p q
structure Fine (x : Exams) : Prop where
  en : x.exams.length ≤ 24
  sn : x.sits.length ≤ 24
  el : ∀ (i : Nat) e, x.exams[i]? = some e → e.studs.length ≤ 64 ∧ e.studs.Nodup
  sl : ∀ (i : Nat) s, x.sits[i]? = some s → timedP s
  so : sortP x.sits
  gd : 0 ≤ x.gaps.days ∧ x.gaps.days ≤ 140

theorem exam_fine {e : Exam} (h : examE e = 0) : e.studs.length ≤ 64 ∧ e.studs.Nodup := by
  unfold examE at h
  split at h
  · split at h
    · cases h
    · split at h
      · cases h
      · split at h
        · cases h
        · split at h
          · rename_i h1 _ h2
            refine ⟨by omega, ris_nodup ?_⟩
            have : ascP e.feats ∧ ascP e.studs := by simpa using h2
            exact this.2.2
          · cases h
  · cases h
theorem sits_fine {l : List Sitting} (h : sitsE l = 0) : l.length ≤ 24 ∧ (∀ (i : Nat) s, l[i]? = some s → timedP s) ∧ sortP l := by
  unfold sitsE at h
  split at h
  · cases h
  rename_i hn
  rw [firstE_zero_iff] at h
  have key : ∀ (i : Nat) s, l[i]? = some s → timedP s ∧ ∀ k p, i = k + 1 → l[k]? = some p → lexP p s := fun i s hs => by
    have h1 := h i (List.getElem?_eq_some_iff.1 hs).1
    by_cases ht : timedP s
    · refine ⟨ht, fun k p hk hp => ?_⟩
      by_cases hc : s.cost < 0 ∨ 1000 < s.cost
      · rw [sE2 hs ht hc] at h1; cases h1
      · apply Classical.byContradiction
        intro hl
        rw [sE3 hs ht (by omega) ⟨k, p, hk, hp, hl⟩] at h1; cases h1
    · rw [sE1 hs ht] at h1; cases h1
  refine ⟨by omega, fun i s hs => (key i s hs).1, fun i j p q hij hp hq => ?_⟩
  induction j generalizing q with
  | zero => omega
  | succ j ih =>
    have hj := (List.getElem?_eq_some_iff.1 hq).1
    obtain ⟨m, hm⟩ := getE (show j < l.length by omega)
    have h1 := (key _ q hq).2 j m rfl hm
    rcases Nat.lt_or_ge i j with h2 | h2
    · have h3 := ih m h2 hm
      unfold lexP at *; omega
    · have : i = j := by omega
      subst this
      rw [hp] at hm; injection hm with hm; subst hm; exact h1
theorem fine_of {x : Exams} (h : examsE x = 0) : Fine x := by
  unfold examsE at h
  split at h
  · rename_i h1; exact absurd h h1
  split at h
  · cases h
  split at h
  · rename_i h1; exact absurd h h1
  rename_i h2 h3
  split at h
  · rename_i h1; exact absurd h h1
  rename_i h4
  have h3 : firstE (exE x.exams) x.exams.length = 0 := Classical.byContradiction fun h => h3 h
  have h4 : sitsE x.sits = 0 := Classical.byContradiction fun h => h4 h
  obtain ⟨s1, s2, s3⟩ := sits_fine h4
  rw [firstE_zero_iff] at h3
  refine ⟨by omega, s1, fun i e he => ?_, s2, s3, ?_⟩
  · have := h3 i (List.getElem?_eq_some_iff.1 he).1
    unfold exE at this
    rw [he] at this
    dsimp only at this
    split at this
    · rename_i h5; exact absurd this h5
    · rename_i h5
      exact exam_fine (Classical.byContradiction fun h => h5 h)
  · unfold gapsE at h
    split at h
    · rename_i h5; exact h5.2.2.2.2
    · cases h

theorem bits_self : ∀ k : Nat, k < 20 → bits .and .i64 (2 ^ k) (2 ^ k) ≠ 0 := by decide +kernel
theorem self_ov {s : Sitting} (h : timedP s) : ovP (timeOf s) (timeOf s) := by
  rw [timeOf_t h]
  obtain ⟨h1, h2, h3, h4, h5, h6⟩ := h
  have hk : (s.day / 7).toNat < 20 := by omega
  have hp := pow2_pos (s.day / 7).toNat
  have hlt : (2 : Int) ^ (s.day / 7).toNat < 2 ^ (20 : Int).toNat := by
    have : (2 : Nat) ^ (s.day / 7).toNat < 2 ^ 20 := Nat.pow_lt_pow_right (by omega) hk
    have e1 : ((2 ^ (s.day / 7).toNat : Nat) : Int) = (2 : Int) ^ (s.day / 7).toNat := by simp
    have e2 : ((2 ^ 20 : Nat) : Int) = (2 : Int) ^ (20 : Int).toNat := by decide
    omega
  have hs : soundP ⟨2 ^ (s.day / 7).toNat, s.day % 7, s.start, s.len⟩ := ⟨⟨by omega, by omega, by dsimp only; omega, hlt⟩, by dsimp only; omega, by dsimp only; omega, h3, h4, h5, h6⟩
  exact ⟨⟨hs, hs, bits_self _ hk, rfl⟩, by dsimp only; omega, by dsimp only; omega⟩

noncomputable def relE (x : Exams) (a b : Nat) (s t : Sitting) : Int :=
  if pB (ovP (timeOf s) (timeOf t)) then 0
  else if s.day = t.day then (if (a : Int) - b = 1 ∨ (b : Int) - a = 1 then 2 else 3)
  else if max s.day t.day - min s.day t.day ≤ x.gaps.days then 4 else -1
theorem relE_comm {x : Exams} {a b : Nat} {s t : Sitting} : relE x a b s t = relE x b a t s := by
  unfold relE
  rw [pB_iff (ovP_comm (a := timeOf s) (b := timeOf t))]
  by_cases h0 : pB (ovP (timeOf t) (timeOf s)) = true
  · rw [if_pos h0, if_pos h0]
  · rw [if_neg h0, if_neg h0]
    by_cases h : s.day = t.day
    · rw [if_pos h, if_pos h.symm]
      by_cases h2 : (a : Int) - b = 1 ∨ (b : Int) - a = 1
      · rw [if_pos h2, if_pos h2.symm]
      · rw [if_neg h2, if_neg fun h => h2 h.symm]
    · rw [if_neg h, if_neg (fun e : t.day = s.day => h e.symm), Int.max_comm, Int.min_comm]
def amid (s t u : Sitting) : Prop := u.day = s.day ∧ min s.start t.start < u.start ∧ u.start < max s.start t.start
theorem row_law {l : List Sitting} (hs : sortP l) {a b : Nat} {s t : Sitting} (ha : l[a]? = some s) (hb : l[b]? = some t) (hab : a ≠ b) (hd : s.day = t.day) (hno : ∀ (j : Nat) u, l[j]? = some u → ¬ amid s t u) : (a : Int) - b = 1 ∨ (b : Int) - a = 1 := by
  apply Classical.byContradiction
  intro hc
  have ha1 := (List.getElem?_eq_some_iff.1 ha).1
  have hb1 := (List.getElem?_eq_some_iff.1 hb).1
  rcases Nat.lt_or_ge a b with h | h
  · obtain ⟨u, hu⟩ := getE (show a + 1 < l.length by omega)
    have h1 := hs a (a + 1) s u (by omega) ha hu
    have h2 := hs (a + 1) b u t (by omega) hu hb
    refine hno _ u hu ?_
    unfold lexP at h1 h2; unfold amid; omega
  · obtain ⟨u, hu⟩ := getE (show b + 1 < l.length by omega)
    have h1 := hs b (b + 1) t u (by omega) hb hu
    have h2 := hs (b + 1) a u s (by omega) hu ha
    refine hno _ u hu ?_
    unfold lexP at h1 h2; unfold amid; omega
theorem day_law {l : List Sitting} (hs : sortP l) {a b i : Nat} {s t u : Sitting} (ha : l[a]? = some s) (hb : l[b]? = some t) (hd : s.day = t.day) (hu : l[i]? = some u) (hm : amid s t u) : ¬ ((a : Int) - b = 1 ∨ (b : Int) - a = 1) := by
  have cmp : ∀ (c : Nat) w, l[c]? = some w → w.day = u.day → (i < c → u.start < w.start) ∧ (c < i → w.start < u.start) ∧ (c = i → w.start = u.start) := fun c w hw hwd => by
    refine ⟨fun h => ?_, fun h => ?_, fun h => ?_⟩
    · have := hs i c u w h hu hw; unfold lexP at this; omega
    · have := hs c i w u h hw hu; unfold lexP at this; omega
    · subst h; rw [hw] at hu; injection hu with hu; rw [hu]
  obtain ⟨m1, m2, m3⟩ := hm
  have h1 := cmp a s ha m1.symm
  have h2 := cmp b t hb (by omega)
  have h3 : a < i ∨ a = i ∨ i < a := by omega
  have h4 : b < i ∨ b = i ∨ i < b := by omega
  rcases h3 with h3 | h3 | h3 <;> rcases h4 with h4 | h4 | h4
  all_goals
    have e1 := h1.1; have e2 := h1.2.1; have e3 := h1.2.2; have e4 := h2.1; have e5 := h2.2.1; have e6 := h2.2.2
    omega
end Go.Proofs.YtpnghlibmpainaaGreat.Cw

/-
  Contracts: the relation of two sittings, students in common.
-/
namespace Go.Proofs.YtpnghlibmpainaaGreat.Cw
open Go.Cw Go.Proofs
set_option linter.unusedVariables false
set_option maxRecDepth 100000
set_option maxHeartbeats 1600000

section
variable {x : Exams} {a b : Nat} {s t : Sitting}
theorem rel0 (h : ovP (timeOf s) (timeOf t)) : relE x a b s t = 0 := by unfold relE; rw [pB_t h, if_pos rfl]
variable (h : ¬ ovP (timeOf s) (timeOf t))
include h
theorem relR (hd : s.day = t.day) (h2 : (a : Int) - b = 1 ∨ (b : Int) - a = 1) : relE x a b s t = 2 := by unfold relE; rw [pB_f h, if_neg (by simp), if_pos hd, if_pos h2]
theorem relD (hd : s.day = t.day) (h2 : ¬ ((a : Int) - b = 1 ∨ (b : Int) - a = 1)) : relE x a b s t = 3 := by unfold relE; rw [pB_f h, if_neg (by simp), if_pos hd, if_neg h2]
theorem relN (hd : ¬ s.day = t.day) (h2 : max s.day t.day - min s.day t.day ≤ x.gaps.days) : relE x a b s t = 4 := by unfold relE; rw [pB_f h, if_neg (by simp), if_neg hd, if_pos h2]
theorem relX (hd : ¬ s.day = t.day) (h2 : ¬ max s.day t.day - min s.day t.day ≤ x.gaps.days) : relE x a b s t = -1 := by unfold relE; rw [pB_f h, if_neg (by simp), if_neg hd, if_neg h2]
end
theorem c_relation (x : Exams) (a b : Nat) (s t : Sitting) (hf : Fine x) (ha : x.sits[a]? = some s) (hb : x.sits[b]? = some t) :
    PCall Tryz.prog 41 [ag x.cells, vint .i64 a, vint .i64 b] (fun r => r = vint .i64 (relE x a b s t)) := by
  have hn := hf.sn
  have ha1 := (List.getElem?_eq_some_iff.1 ha).1
  have hb1 := (List.getElem?_eq_some_iff.1 hb).1
  have hs := timed_b (hf.sl a s ha)
  have ht := timed_b (hf.sl b t hb)
  refine acall_of tok mixed 63 rfl (fn := Tryz.f41) (c := Tryz.f41.body.getD .skip) (by kernel_rfl) (by kernel_rfl) (by kernel_rfl) rfl 0 rfl ?_
  repeat' (first | (refine idx_sl (k := a) (at_map ha) (by omega) ?_) | (refine idx_sl (k := b) (at_map hb) (by omega) ?_) | (refine eqv_wrap (by (try dsimp only [cond]); omega) (by (try dsimp only [cond]); omega) ?_) | refine o1 ?_ | refine o2 ?_ | refine k1 ?_ | refine k2 ?_ | refine k3 ?_ | refine k4 ?_ | refine k6 ?_ | refine k7 ?_ | refine k8 ?_ | refine And.intro ?_ ?_ | exact trivial | refine o3 ?_ | refine o4 ?_ | refine o5 ?_ | refine o6 ?_ | refine k5 ?_ | (intro h; first | exact Bool.noConfusion h | exact nz _ h | exact nl h | (simp at h; done) | (simp at h; first | (exfalso; omega) | skip) | skip) | (change retOk _ _ _ _; refine ret_pure rfl trivial ?_) | exact (rfl : allOne _ = true) | (refine (?_ : (0 : Int) ≤ _); omega) | (refine (?_ : _ ≠ _); omega) | (refine (?_ : srcLen _ = rowsLen _); rfl) | exact Nat.le_of_ble_eq_true rfl | exact (by kernel_rfl : drawOk _ _ = true) | refine eqv_len_map ?_ | refine eqv_size ?_ | refine eqv_put (eqv_ck ?_) | refine eqv_zero ?_ | refine eqv_wrap (by omega) (by omega) ?_ | refine eqv_u64 (by omega) (by omega) ?_ | refine eqv_u8 (by omega) (by omega) ?_ | refine eqv_to _ (set_map rfl rfl) ?_ | refine ⟨_, _, (by first | rfl | assumption), at_map (by assumption), ?_⟩ | refine ⟨_, _, (by first | rfl | assumption), (by assumption), ?_⟩ | refine ⟨_, at_map (by assumption), (by decide), ?_⟩ | refine ⟨_, at_map (by assumption), ?_⟩ | (refine (?_ : _ ≤ 140737488355328); simp [rowsLen] <;> omega) | (refine (?_ : _ ≤ 9223372036854775807); simp [rowsLen] <;> omega) | (refine (?_ : _ = rowsLen _); simp [rowsLen] <;> omega) | refine eqv_to _ (app_row rfl) (eqv_to _ app_len ?_) | refine eqv_to _ (app_first rfl) (eqv_to 1 rfl ?_) | refine idx_sl (at_map (by assumption)) (by omega) ?_ | refine idx_ms _ (by first | rfl | assumption) (by first | assumption | omega) ?_ | (change vcFunD _ _ _ _ _; refine callD_eq rfl (by repeat' (first | trivial | refine And.intro ?_ ?_ | (show 0 + _ ≤ List.length _; simp))) ALeL.refl (c_time s) rfl ?_) | (change vcFunD _ _ _ _ _; refine callD_eq rfl (by repeat' (first | trivial | refine And.intro ?_ ?_ | (show 0 + _ ≤ List.length _; simp))) ALeL.refl (c_time t) rfl ?_) | (change vcFunD _ _ _ _ _; refine callD_eq rfl (by repeat' (first | trivial | refine And.intro ?_ ?_ | (show 0 + _ ≤ List.length _; simp))) ALeL.refl (c_overlap (timeOf s) (timeOf t)) rfl ?_) | fail)
  all_goals first
    | exact congrArg (vint .i64) (rel0 (by assumption)).symm
    | exact congrArg (vint .i64) (relR (by assumption) (by assumption) (by omega)).symm
    | exact congrArg (vint .i64) (relD (by assumption) (by assumption) (by omega)).symm
    | exact congrArg (vint .i64) (relN (by assumption) (by assumption) (by omega)).symm
    | exact congrArg (vint .i64) (relX (by assumption) (by assumption) (by omega)).symm

theorem c_rrelation (x : Exams) (a b : Nat) (s t : Sitting) (hf : Fine x) (ha : x.sits[a]? = some s) (hb : x.sits[b]? = some t) :
    PCall Tryz.prog 43 [ag x.cells, vint .i64 a, vint .i64 b] (fun r => r = vint .i64 (relE x a b s t)) := by
  have hn := hf.sn
  have ha1 := (List.getElem?_eq_some_iff.1 ha).1
  have hb1 := (List.getElem?_eq_some_iff.1 hb).1
  have hs := timed_b (hf.sl a s ha)
  have ht := timed_b (hf.sl b t hb)
  refine acall_of tok mixed 83 rfl (fn := Tryz.f43) (c := Tryz.f43.body.getD .skip) (by kernel_rfl) (by kernel_rfl) (by kernel_rfl) rfl 0 rfl ?_
  repeat' (first | (refine idx_sl (k := a) (at_map ha) (by omega) ?_) | (refine idx_sl (k := b) (at_map hb) (by omega) ?_) | (refine eqv_wrap (by (try dsimp only [cond]); omega) (by (try dsimp only [cond]); omega) ?_) | refine o1 ?_ | refine o2 ?_ | refine k1 ?_ | refine k2 ?_ | refine k3 ?_ | refine k4 ?_ | refine k6 ?_ | refine k7 ?_ | refine k8 ?_ | refine And.intro ?_ ?_ | exact trivial | refine o3 ?_ | refine o4 ?_ | refine o5 ?_ | refine o6 ?_ | refine k5 ?_ | (intro h; first | exact Bool.noConfusion h | exact nz _ h | exact nl h | (simp at h; done) | (simp at h; first | (exfalso; omega) | skip) | skip) | (change retOk _ _ _ _; refine ret_pure rfl trivial ?_) | exact (rfl : allOne _ = true) | (refine (?_ : (0 : Int) ≤ _); omega) | (refine (?_ : _ ≠ _); omega) | (refine (?_ : srcLen _ = rowsLen _); rfl) | exact Nat.le_of_ble_eq_true rfl | exact (by kernel_rfl : drawOk _ _ = true) | refine eqv_len_map ?_ | refine eqv_size ?_ | refine eqv_put (eqv_ck ?_) | refine eqv_zero ?_ | refine eqv_wrap (by omega) (by omega) ?_ | refine eqv_u64 (by omega) (by omega) ?_ | refine eqv_u8 (by omega) (by omega) ?_ | refine eqv_to _ (set_map rfl rfl) ?_ | refine ⟨_, _, (by first | rfl | assumption), at_map (by assumption), ?_⟩ | refine ⟨_, _, (by first | rfl | assumption), (by assumption), ?_⟩ | refine ⟨_, at_map (by assumption), (by decide), ?_⟩ | refine ⟨_, at_map (by assumption), ?_⟩ | (refine (?_ : _ ≤ 140737488355328); simp [rowsLen] <;> omega) | (refine (?_ : _ ≤ 9223372036854775807); simp [rowsLen] <;> omega) | (refine (?_ : _ = rowsLen _); simp [rowsLen] <;> omega) | refine eqv_to _ (app_row rfl) (eqv_to _ app_len ?_) | refine eqv_to _ (app_first rfl) (eqv_to 1 rfl ?_) | refine idx_sl (at_map (by assumption)) (by omega) ?_ | refine idx_ms _ (by first | rfl | assumption) (by first | assumption | omega) ?_ | (change vcFunD _ _ _ _ _; refine callD_eq rfl (by repeat' (first | trivial | refine And.intro ?_ ?_ | (show 0 + _ ≤ List.length _; simp))) ALeL.refl (c_rtime s) rfl ?_) | (change vcFunD _ _ _ _ _; refine callD_eq rfl (by repeat' (first | trivial | refine And.intro ?_ ?_ | (show 0 + _ ≤ List.length _; simp))) ALeL.refl (c_rtime t) rfl ?_) | (change vcFunD _ _ _ _ _; refine callD_eq rfl (by repeat' (first | trivial | refine And.intro ?_ ?_ | (show 0 + _ ≤ List.length _; simp))) ALeL.refl (c_roverlap (timeOf s) (timeOf t)) rfl ?_) | fail)
  all_goals first
    | exact congrArg (vint .i64) (rel0 (by assumption)).symm
    | exact congrArg (vint .i64) (relR (by assumption) (by assumption) (by omega)).symm
    | exact congrArg (vint .i64) (relD (by assumption) (by assumption) (by omega)).symm
    | exact congrArg (vint .i64) (relN (by assumption) (by assumption) (by omega)).symm
    | exact congrArg (vint .i64) (relX (by assumption) (by assumption) (by omega)).symm
    | skip
  refine loop_at (fun i : Nat => [(9, vint .i64 i)]) (fun _ => []) (fun i => i ≤ x.sits.length ∧ ∀ j, j < i → ∀ u, x.sits[j]? = some u → ¬ amid s t u) (fun i => x.sits.length - i) 0 ⟨by omega, fun j hj => by omega⟩ (by repeat' (first | exact trivial | exact rfl | exact ⟨_, rfl, ALe.refl⟩ | refine And.intro ?_ ?_)) (by repeat' (first | exact trivial | exact rfl | exact ⟨_, rfl, ALe.refl⟩ | refine And.intro ?_ ?_)) ?_
  intro i ⟨hi, hall⟩
  have hno : ¬ ovP (timeOf s) (timeOf t) := by assumption
  have hday : s.day = t.day := by omega
  rcases Nat.lt_or_ge i x.sits.length with hlt | hge
  · obtain ⟨u, hu⟩ := getE hlt
    have hud := timed_b (hf.sl i u hu)
    repeat' (first | (refine idx_sl (k := i) (at_map hu) (by omega) ?_) | refine o1 ?_ | refine o2 ?_ | refine k1 ?_ | refine k2 ?_ | refine k3 ?_ | refine k4 ?_ | refine k6 ?_ | refine k7 ?_ | refine k8 ?_ | refine And.intro ?_ ?_ | exact trivial | refine o3 ?_ | refine o4 ?_ | refine o5 ?_ | refine o6 ?_ | refine k5 ?_ | (intro h; first | exact Bool.noConfusion h | exact nz _ h | exact nl h | (simp at h; done) | (simp at h; first | (exfalso; omega) | skip) | skip) | (change retOk _ _ _ _; refine ret_pure rfl trivial ?_) | exact (rfl : allOne _ = true) | (refine (?_ : (0 : Int) ≤ _); omega) | (refine (?_ : _ ≠ _); omega) | (refine (?_ : srcLen _ = rowsLen _); rfl) | exact Nat.le_of_ble_eq_true rfl | exact (by kernel_rfl : drawOk _ _ = true) | refine eqv_len_map ?_ | refine eqv_size ?_ | refine eqv_put (eqv_ck ?_) | refine eqv_zero ?_ | refine eqv_wrap (by omega) (by omega) ?_ | refine eqv_u64 (by omega) (by omega) ?_ | refine eqv_u8 (by omega) (by omega) ?_ | refine eqv_to _ (set_map rfl rfl) ?_ | refine ⟨_, _, (by first | rfl | assumption), at_map (by assumption), ?_⟩ | refine ⟨_, _, (by first | rfl | assumption), (by assumption), ?_⟩ | refine ⟨_, at_map (by assumption), (by decide), ?_⟩ | refine ⟨_, at_map (by assumption), ?_⟩ | (refine (?_ : _ ≤ 140737488355328); simp [rowsLen] <;> omega) | (refine (?_ : _ ≤ 9223372036854775807); simp [rowsLen] <;> omega) | (refine (?_ : _ = rowsLen _); simp [rowsLen] <;> omega) | refine eqv_to _ (app_row rfl) (eqv_to _ app_len ?_) | refine eqv_to _ (app_first rfl) (eqv_to 1 rfl ?_) | refine idx_sl (at_map (by assumption)) (by omega) ?_ | refine idx_ms _ (by first | rfl | assumption) (by first | assumption | omega) ?_ | fail)
    all_goals first
      | exact congrArg (vint .i64) (relD hno hday (day_law hf.so ha hb hday hu ⟨by omega, by omega, by omega⟩)).symm
      | exact ⟨i + 1, ⟨by omega, all_lt_succ hall fun u' h' => by rw [hu] at h'; cases h'; exact fun hm => by unfold amid at hm; omega⟩, by omega, back [0, 1, 2] rfl rfl ⟨rfl, rfl, rfl, trivial⟩ (by repeat' (first | exact trivial | exact rfl | exact ⟨_, rfl, ALe.refl⟩ | refine And.intro ?_ ?_))⟩
  · repeat' (first | refine o1 ?_ | refine o2 ?_ | refine k1 ?_ | refine k2 ?_ | refine k3 ?_ | refine k4 ?_ | refine k6 ?_ | refine k7 ?_ | refine k8 ?_ | refine And.intro ?_ ?_ | exact trivial | refine o3 ?_ | refine o4 ?_ | refine o5 ?_ | refine o6 ?_ | refine k5 ?_ | (intro h; first | exact Bool.noConfusion h | exact nz _ h | exact nl h | (simp at h; done) | (simp at h; first | (exfalso; omega) | skip) | skip) | (change retOk _ _ _ _; refine ret_pure rfl trivial ?_) | exact (rfl : allOne _ = true) | (refine (?_ : (0 : Int) ≤ _); omega) | (refine (?_ : _ ≠ _); omega) | (refine (?_ : srcLen _ = rowsLen _); rfl) | exact Nat.le_of_ble_eq_true rfl | exact (by kernel_rfl : drawOk _ _ = true) | refine eqv_len_map ?_ | refine eqv_size ?_ | refine eqv_put (eqv_ck ?_) | refine eqv_zero ?_ | refine eqv_wrap (by omega) (by omega) ?_ | refine eqv_u64 (by omega) (by omega) ?_ | refine eqv_u8 (by omega) (by omega) ?_ | refine eqv_to _ (set_map rfl rfl) ?_ | refine ⟨_, _, (by first | rfl | assumption), at_map (by assumption), ?_⟩ | refine ⟨_, _, (by first | rfl | assumption), (by assumption), ?_⟩ | refine ⟨_, at_map (by assumption), (by decide), ?_⟩ | refine ⟨_, at_map (by assumption), ?_⟩ | (refine (?_ : _ ≤ 140737488355328); simp [rowsLen] <;> omega) | (refine (?_ : _ ≤ 9223372036854775807); simp [rowsLen] <;> omega) | (refine (?_ : _ = rowsLen _); simp [rowsLen] <;> omega) | refine eqv_to _ (app_row rfl) (eqv_to _ app_len ?_) | refine eqv_to _ (app_first rfl) (eqv_to 1 rfl ?_) | refine idx_sl (at_map (by assumption)) (by omega) ?_ | refine idx_ms _ (by first | rfl | assumption) (by first | assumption | omega) ?_ | fail)
    all_goals first
      | exact congrArg (vint .i64) (relR hno hday (row_law hf.so ha hb (fun e => hno (by subst e; rw [ha] at hb; injection hb with hb; subst hb; exact self_ov (hf.sl a s ha))) hday fun j u hu => hall j (by have := (List.getElem?_eq_some_iff.1 hu).1; omega) u hu)).symm
end Go.Proofs.YtpnghlibmpainaaGreat.Cw

/-
  Contracts: students in common; the relation and the common students of any numbers.
-/
namespace Go.Proofs.YtpnghlibmpainaaGreat.Cw
open Go.Cw Go.Proofs
set_option linter.unusedVariables false
set_option maxRecDepth 100000
set_option maxHeartbeats 1600000

theorem comN_t {a b : List Str} {i : Nat} {s : Str} (hs : a[i]? = some s) (h : s ∈ b) : (comN (a.take (i + 1)) b : Int) = comN (a.take i) b + 1 := by
  unfold comN
  rw [List.take_add_one, hs]
  simp [List.countP_append, h]
theorem comN_f {a b : List Str} {i : Nat} {s : Str} (hs : a[i]? = some s) (h : ¬ s ∈ b) : (comN (a.take (i + 1)) b : Int) = comN (a.take i) b := by
  unfold comN
  rw [List.take_add_one, hs]
  simp [List.countP_append, h]
theorem comN_b {a b : List Str} : comN a b ≤ a.length := List.countP_le_length
theorem comN_tb {a b : List Str} {i : Nat} : comN (a.take i) b ≤ i := by
  have := comN_b (a := a.take i) (b := b)
  rw [List.length_take] at this; omega
theorem comN_all {a b : List Str} {i : Nat} (h : a.length ≤ i) : comN (a.take i) b = comN a b := by rw [List.take_of_length_le h]

theorem c_common (x : Exams) (a b : Nat) (e f : Exam) (hf : Fine x) (ha : x.exams[a]? = some e) (hb : x.exams[b]? = some f) :
    PCall Tryz.prog 44 [ag x.cells, vint .i64 a, vint .i64 b] (fun r => r = vint .i64 (comN e.studs f.studs)) := by
  have hn := hf.en
  have ha1 := (List.getElem?_eq_some_iff.1 ha).1
  have hb1 := (List.getElem?_eq_some_iff.1 hb).1
  have hs := (hf.el a e ha).1
  have ht := (hf.el b f hb).1
  refine acall_of tok mixed 33 rfl (fn := Tryz.f44) (c := Tryz.f44.body.getD .skip) (by kernel_rfl) (by kernel_rfl) (by kernel_rfl) rfl 0 rfl ?_
  repeat' (first | (refine idx_sl (k := a) (at_map ha) (by omega) ?_) | refine o1 ?_ | refine o2 ?_ | refine k1 ?_ | refine k2 ?_ | refine k3 ?_ | refine k4 ?_ | refine k6 ?_ | refine k7 ?_ | refine k8 ?_ | refine And.intro ?_ ?_ | exact trivial | refine o3 ?_ | refine o4 ?_ | refine o5 ?_ | refine o6 ?_ | refine k5 ?_ | (intro h; first | exact Bool.noConfusion h | exact nz _ h | exact nl h | (simp at h; done) | (simp at h; first | (exfalso; omega) | skip) | skip) | (change retOk _ _ _ _; refine ret_pure rfl trivial ?_) | exact (rfl : allOne _ = true) | (refine (?_ : (0 : Int) ≤ _); omega) | (refine (?_ : _ ≠ _); omega) | (refine (?_ : srcLen _ = rowsLen _); rfl) | exact Nat.le_of_ble_eq_true rfl | exact (by kernel_rfl : drawOk _ _ = true) | refine eqv_len_map ?_ | refine eqv_size ?_ | refine eqv_put (eqv_ck ?_) | refine eqv_zero ?_ | refine eqv_wrap (by omega) (by omega) ?_ | refine eqv_u64 (by omega) (by omega) ?_ | refine eqv_u8 (by omega) (by omega) ?_ | refine eqv_to _ (set_map rfl rfl) ?_ | refine ⟨_, _, (by first | rfl | assumption), at_map (by assumption), ?_⟩ | refine ⟨_, _, (by first | rfl | assumption), (by assumption), ?_⟩ | refine ⟨_, at_map (by assumption), (by decide), ?_⟩ | refine ⟨_, at_map (by assumption), ?_⟩ | (refine (?_ : _ ≤ 140737488355328); simp [rowsLen] <;> omega) | (refine (?_ : _ ≤ 9223372036854775807); simp [rowsLen] <;> omega) | (refine (?_ : _ = rowsLen _); simp [rowsLen] <;> omega) | refine eqv_to _ (app_row rfl) (eqv_to _ app_len ?_) | refine eqv_to _ (app_first rfl) (eqv_to 1 rfl ?_) | refine idx_sl (at_map (by assumption)) (by omega) ?_ | refine idx_ms _ (by first | rfl | assumption) (by first | assumption | omega) ?_ | fail)
  refine loop_at (fun i : Nat => [(7, vint .i64 (comN (e.studs.take i) f.studs)), (17, vint .i64 i)]) (fun _ => []) (fun i => i ≤ e.studs.length) (fun i => e.studs.length - i) 0 (by omega) (by repeat' (first | exact trivial | exact rfl | exact ⟨_, rfl, ALe.refl⟩ | refine And.intro ?_ ?_)) (by repeat' (first | exact trivial | exact rfl | exact ⟨_, rfl, ALe.refl⟩ | refine And.intro ?_ ?_)) ?_
  intro i hi
  have hc := comN_tb (a := e.studs) (b := f.studs) (i := i)
  rcases Nat.lt_or_ge i e.studs.length with hlt | hge
  · obtain ⟨s, hs1⟩ := getE hlt
    repeat' (first | (refine idx_sl (k := b) (at_map hb) (by omega) ?_) | refine o1 ?_ | refine o2 ?_ | refine k1 ?_ | refine k2 ?_ | refine k3 ?_ | refine k4 ?_ | refine k6 ?_ | refine k7 ?_ | refine k8 ?_ | refine And.intro ?_ ?_ | exact trivial | refine o3 ?_ | refine o4 ?_ | refine o5 ?_ | refine o6 ?_ | refine k5 ?_ | (intro h; first | exact Bool.noConfusion h | exact nz _ h | exact nl h | (simp at h; done) | (simp at h; first | (exfalso; omega) | skip) | skip) | (change retOk _ _ _ _; refine ret_pure rfl trivial ?_) | exact (rfl : allOne _ = true) | (refine (?_ : (0 : Int) ≤ _); omega) | (refine (?_ : _ ≠ _); omega) | (refine (?_ : srcLen _ = rowsLen _); rfl) | exact Nat.le_of_ble_eq_true rfl | exact (by kernel_rfl : drawOk _ _ = true) | refine eqv_len_map ?_ | refine eqv_size ?_ | refine eqv_put (eqv_ck ?_) | refine eqv_zero ?_ | refine eqv_wrap (by omega) (by omega) ?_ | refine eqv_u64 (by omega) (by omega) ?_ | refine eqv_u8 (by omega) (by omega) ?_ | refine eqv_to _ (set_map rfl rfl) ?_ | refine ⟨_, _, (by first | rfl | assumption), at_map (by assumption), ?_⟩ | refine ⟨_, _, (by first | rfl | assumption), (by assumption), ?_⟩ | refine ⟨_, at_map (by assumption), (by decide), ?_⟩ | refine ⟨_, at_map (by assumption), ?_⟩ | (refine (?_ : _ ≤ 140737488355328); simp [rowsLen] <;> omega) | (refine (?_ : _ ≤ 9223372036854775807); simp [rowsLen] <;> omega) | (refine (?_ : _ = rowsLen _); simp [rowsLen] <;> omega) | refine eqv_to _ (app_row rfl) (eqv_to _ app_len ?_) | refine eqv_to _ (app_first rfl) (eqv_to 1 rfl ?_) | refine idx_sl (at_map (by assumption)) (by omega) ?_ | refine idx_ms _ (by first | rfl | assumption) (by first | assumption | omega) ?_ | (change vcFun _ _ _ _ _; refine call_eq rfl (by repeat' (first | trivial | refine And.intro ?_ ?_ | (show 0 + _ ≤ List.length _; simp))) ALeL.refl (c_contains f.studs s (by omega)) rfl ?_) | fail)
    all_goals first
      | exact ⟨i + 1, by omega, by omega, back [0] rfl rfl ⟨rfl, trivial⟩ ⟨slot_eq rfl (congrArg (vint .i64) (comN_t hs1 (by assumption)).symm), by repeat' (first | exact trivial | exact rfl | exact ⟨_, rfl, ALe.refl⟩ | refine And.intro ?_ ?_)⟩⟩
      | exact ⟨i + 1, by omega, by omega, back [0] rfl rfl ⟨rfl, trivial⟩ ⟨slot_eq rfl (congrArg (vint .i64) (comN_f hs1 (by assumption)).symm), by repeat' (first | exact trivial | exact rfl | exact ⟨_, rfl, ALe.refl⟩ | refine And.intro ?_ ?_)⟩⟩
  · repeat' (first | refine o1 ?_ | refine o2 ?_ | refine k1 ?_ | refine k2 ?_ | refine k3 ?_ | refine k4 ?_ | refine k6 ?_ | refine k7 ?_ | refine k8 ?_ | refine And.intro ?_ ?_ | exact trivial | refine o3 ?_ | refine o4 ?_ | refine o5 ?_ | refine o6 ?_ | refine k5 ?_ | (intro h; first | exact Bool.noConfusion h | exact nz _ h | exact nl h | (simp at h; done) | (simp at h; first | (exfalso; omega) | skip) | skip) | (change retOk _ _ _ _; refine ret_pure rfl trivial ?_) | exact (rfl : allOne _ = true) | (refine (?_ : (0 : Int) ≤ _); omega) | (refine (?_ : _ ≠ _); omega) | (refine (?_ : srcLen _ = rowsLen _); rfl) | exact Nat.le_of_ble_eq_true rfl | exact (by kernel_rfl : drawOk _ _ = true) | refine eqv_len_map ?_ | refine eqv_size ?_ | refine eqv_put (eqv_ck ?_) | refine eqv_zero ?_ | refine eqv_wrap (by omega) (by omega) ?_ | refine eqv_u64 (by omega) (by omega) ?_ | refine eqv_u8 (by omega) (by omega) ?_ | refine eqv_to _ (set_map rfl rfl) ?_ | refine ⟨_, _, (by first | rfl | assumption), at_map (by assumption), ?_⟩ | refine ⟨_, _, (by first | rfl | assumption), (by assumption), ?_⟩ | refine ⟨_, at_map (by assumption), (by decide), ?_⟩ | refine ⟨_, at_map (by assumption), ?_⟩ | (refine (?_ : _ ≤ 140737488355328); simp [rowsLen] <;> omega) | (refine (?_ : _ ≤ 9223372036854775807); simp [rowsLen] <;> omega) | (refine (?_ : _ = rowsLen _); simp [rowsLen] <;> omega) | refine eqv_to _ (app_row rfl) (eqv_to _ app_len ?_) | refine eqv_to _ (app_first rfl) (eqv_to 1 rfl ?_) | refine idx_sl (at_map (by assumption)) (by omega) ?_ | refine idx_ms _ (by first | rfl | assumption) (by first | assumption | omega) ?_ | fail)
    exact congrArg (vint .i64) (congrArg (fun n : Nat => (n : Int)) (comN_all hge))
theorem c_rcommon (e f : Exam) (hs : e.studs.length ≤ 64) (ht : f.studs.length ≤ 64) :
    PCall Tryz.prog 45 [ag e.row, ag f.row] (fun r => r = vint .i64 (comN e.studs f.studs)) := by
  refine acall_of tok mixed 25 rfl (fn := Tryz.f45) (c := Tryz.f45.body.getD .skip) (by kernel_rfl) (by kernel_rfl) (by kernel_rfl) rfl 0 rfl ?_
  repeat' (first | refine o1 ?_ | refine o2 ?_ | refine k1 ?_ | refine k2 ?_ | refine k3 ?_ | refine k4 ?_ | refine k6 ?_ | refine k7 ?_ | refine k8 ?_ | refine And.intro ?_ ?_ | exact trivial | refine o3 ?_ | refine o4 ?_ | refine o5 ?_ | refine o6 ?_ | refine k5 ?_ | (intro h; first | exact Bool.noConfusion h | exact nz _ h | exact nl h | (simp at h; done) | (simp at h; first | (exfalso; omega) | skip) | skip) | (change retOk _ _ _ _; refine ret_pure rfl trivial ?_) | exact (rfl : allOne _ = true) | (refine (?_ : (0 : Int) ≤ _); omega) | (refine (?_ : _ ≠ _); omega) | (refine (?_ : srcLen _ = rowsLen _); rfl) | exact Nat.le_of_ble_eq_true rfl | exact (by kernel_rfl : drawOk _ _ = true) | refine eqv_len_map ?_ | refine eqv_size ?_ | refine eqv_put (eqv_ck ?_) | refine eqv_zero ?_ | refine eqv_wrap (by omega) (by omega) ?_ | refine eqv_u64 (by omega) (by omega) ?_ | refine eqv_u8 (by omega) (by omega) ?_ | refine eqv_to _ (set_map rfl rfl) ?_ | refine ⟨_, _, (by first | rfl | assumption), at_map (by assumption), ?_⟩ | refine ⟨_, _, (by first | rfl | assumption), (by assumption), ?_⟩ | refine ⟨_, at_map (by assumption), (by decide), ?_⟩ | refine ⟨_, at_map (by assumption), ?_⟩ | (refine (?_ : _ ≤ 140737488355328); simp [rowsLen] <;> omega) | (refine (?_ : _ ≤ 9223372036854775807); simp [rowsLen] <;> omega) | (refine (?_ : _ = rowsLen _); simp [rowsLen] <;> omega) | refine eqv_to _ (app_row rfl) (eqv_to _ app_len ?_) | refine eqv_to _ (app_first rfl) (eqv_to 1 rfl ?_) | refine idx_sl (at_map (by assumption)) (by omega) ?_ | refine idx_ms _ (by first | rfl | assumption) (by first | assumption | omega) ?_ | fail)
  refine loop_at (fun i : Nat => [(5, vint .i64 (comN (e.studs.take i) f.studs)), (6, vint .i64 i)]) (fun _ => []) (fun i => i ≤ e.studs.length) (fun i => e.studs.length - i) 0 (by omega) (by repeat' (first | exact trivial | exact rfl | exact ⟨_, rfl, ALe.refl⟩ | refine And.intro ?_ ?_)) (by repeat' (first | exact trivial | exact rfl | exact ⟨_, rfl, ALe.refl⟩ | refine And.intro ?_ ?_)) ?_
  intro i hi
  have hc := comN_tb (a := e.studs) (b := f.studs) (i := i)
  rcases Nat.lt_or_ge i e.studs.length with hlt | hge
  · obtain ⟨s, hs1⟩ := getE hlt
    repeat' (first | refine o1 ?_ | refine o2 ?_ | refine k1 ?_ | refine k2 ?_ | refine k3 ?_ | refine k4 ?_ | refine k6 ?_ | refine k7 ?_ | refine k8 ?_ | refine And.intro ?_ ?_ | exact trivial | refine o3 ?_ | refine o4 ?_ | refine o5 ?_ | refine o6 ?_ | refine k5 ?_ | (intro h; first | exact Bool.noConfusion h | exact nz _ h | exact nl h | (simp at h; done) | (simp at h; first | (exfalso; omega) | skip) | skip) | (change retOk _ _ _ _; refine ret_pure rfl trivial ?_) | exact (rfl : allOne _ = true) | (refine (?_ : (0 : Int) ≤ _); omega) | (refine (?_ : _ ≠ _); omega) | (refine (?_ : srcLen _ = rowsLen _); rfl) | exact Nat.le_of_ble_eq_true rfl | exact (by kernel_rfl : drawOk _ _ = true) | refine eqv_len_map ?_ | refine eqv_size ?_ | refine eqv_put (eqv_ck ?_) | refine eqv_zero ?_ | refine eqv_wrap (by omega) (by omega) ?_ | refine eqv_u64 (by omega) (by omega) ?_ | refine eqv_u8 (by omega) (by omega) ?_ | refine eqv_to _ (set_map rfl rfl) ?_ | refine ⟨_, _, (by first | rfl | assumption), at_map (by assumption), ?_⟩ | refine ⟨_, _, (by first | rfl | assumption), (by assumption), ?_⟩ | refine ⟨_, at_map (by assumption), (by decide), ?_⟩ | refine ⟨_, at_map (by assumption), ?_⟩ | (refine (?_ : _ ≤ 140737488355328); simp [rowsLen] <;> omega) | (refine (?_ : _ ≤ 9223372036854775807); simp [rowsLen] <;> omega) | (refine (?_ : _ = rowsLen _); simp [rowsLen] <;> omega) | refine eqv_to _ (app_row rfl) (eqv_to _ app_len ?_) | refine eqv_to _ (app_first rfl) (eqv_to 1 rfl ?_) | refine idx_sl (at_map (by assumption)) (by omega) ?_ | refine idx_ms _ (by first | rfl | assumption) (by first | assumption | omega) ?_ | (change vcFunD _ _ _ _ _; refine callD_eq rfl (by repeat' (first | trivial | refine And.intro ?_ ?_ | (show 0 + _ ≤ List.length _; simp))) ALeL.refl (c_has f.studs s (by omega)) rfl ?_) | fail)
    all_goals first
      | exact ⟨i + 1, by omega, by omega, back [0, 1] rfl rfl ⟨rfl, rfl, trivial⟩ ⟨slot_eq rfl (congrArg (vint .i64) (comN_t hs1 (by assumption)).symm), by repeat' (first | exact trivial | exact rfl | exact ⟨_, rfl, ALe.refl⟩ | refine And.intro ?_ ?_)⟩⟩
      | exact ⟨i + 1, by omega, by omega, back [0, 1] rfl rfl ⟨rfl, rfl, trivial⟩ ⟨slot_eq rfl (congrArg (vint .i64) (comN_f hs1 (by assumption)).symm), by repeat' (first | exact trivial | exact rfl | exact ⟨_, rfl, ALe.refl⟩ | refine And.intro ?_ ?_)⟩⟩
  · repeat' (first | refine o1 ?_ | refine o2 ?_ | refine k1 ?_ | refine k2 ?_ | refine k3 ?_ | refine k4 ?_ | refine k6 ?_ | refine k7 ?_ | refine k8 ?_ | refine And.intro ?_ ?_ | exact trivial | refine o3 ?_ | refine o4 ?_ | refine o5 ?_ | refine o6 ?_ | refine k5 ?_ | (intro h; first | exact Bool.noConfusion h | exact nz _ h | exact nl h | (simp at h; done) | (simp at h; first | (exfalso; omega) | skip) | skip) | (change retOk _ _ _ _; refine ret_pure rfl trivial ?_) | exact (rfl : allOne _ = true) | (refine (?_ : (0 : Int) ≤ _); omega) | (refine (?_ : _ ≠ _); omega) | (refine (?_ : srcLen _ = rowsLen _); rfl) | exact Nat.le_of_ble_eq_true rfl | exact (by kernel_rfl : drawOk _ _ = true) | refine eqv_len_map ?_ | refine eqv_size ?_ | refine eqv_put (eqv_ck ?_) | refine eqv_zero ?_ | refine eqv_wrap (by omega) (by omega) ?_ | refine eqv_u64 (by omega) (by omega) ?_ | refine eqv_u8 (by omega) (by omega) ?_ | refine eqv_to _ (set_map rfl rfl) ?_ | refine ⟨_, _, (by first | rfl | assumption), at_map (by assumption), ?_⟩ | refine ⟨_, _, (by first | rfl | assumption), (by assumption), ?_⟩ | refine ⟨_, at_map (by assumption), (by decide), ?_⟩ | refine ⟨_, at_map (by assumption), ?_⟩ | (refine (?_ : _ ≤ 140737488355328); simp [rowsLen] <;> omega) | (refine (?_ : _ ≤ 9223372036854775807); simp [rowsLen] <;> omega) | (refine (?_ : _ = rowsLen _); simp [rowsLen] <;> omega) | refine eqv_to _ (app_row rfl) (eqv_to _ app_len ?_) | refine eqv_to _ (app_first rfl) (eqv_to 1 rfl ?_) | refine idx_sl (at_map (by assumption)) (by omega) ?_ | refine idx_ms _ (by first | rfl | assumption) (by first | assumption | omega) ?_ | fail)
    exact congrArg (vint .i64) (congrArg (fun n : Nat => (n : Int)) (comN_all hge))
noncomputable def relV (x : Exams) (a b : Int) : Int := match x.sits[a.toNat]?, x.sits[b.toNat]? with
  | some s, some t => relE x a.toNat b.toNat s t
  | _, _ => -2
noncomputable def comV (x : Exams) (a b : Int) : Int := match x.exams[a.toNat]?, x.exams[b.toNat]? with
  | some e, some f => comN e.studs f.studs
  | _, _ => 0
/-- What Relation answers, and Common. -/
noncomputable def relA (x : Exams) (a b : Int) : Int := if examsE x ≠ 0 ∨ a < 0 ∨ (x.sits.length : Int) ≤ a ∨ b < 0 ∨ (x.sits.length : Int) ≤ b then -2 else relV x a b
noncomputable def comA (x : Exams) (a b : Int) : Int := if examsE x ≠ 0 ∨ a < 0 ∨ (x.exams.length : Int) ≤ a ∨ b < 0 ∨ (x.exams.length : Int) ≤ b then 0 else comV x a b
theorem relA_f {x : Exams} {a b : Int} (h : ¬ (examsE x = 0 ∧ 0 ≤ a ∧ a < x.sits.length ∧ 0 ≤ b ∧ b < x.sits.length)) : relA x a b = -2 := by
  unfold relA
  rw [if_pos]
  by_cases h0 : examsE x = 0
  · omega
  · exact .inl h0
theorem comA_f {x : Exams} {a b : Int} (h : ¬ (examsE x = 0 ∧ 0 ≤ a ∧ a < x.exams.length ∧ 0 ≤ b ∧ b < x.exams.length)) : comA x a b = 0 := by
  unfold comA
  rw [if_pos]
  by_cases h0 : examsE x = 0
  · omega
  · exact .inl h0
theorem relA_t {x : Exams} {a b : Nat} {s t : Sitting} (h : examsE x = 0) (ha : x.sits[a]? = some s) (hb : x.sits[b]? = some t) : relA x a b = relE x a b s t := by
  have ha1 := (List.getElem?_eq_some_iff.1 ha).1
  have hb1 := (List.getElem?_eq_some_iff.1 hb).1
  unfold relA relV
  rw [if_neg (by omega)]
  simp only [Int.toNat_natCast, ha, hb]
theorem comA_t {x : Exams} {a b : Nat} {e f : Exam} (h : examsE x = 0) (ha : x.exams[a]? = some e) (hb : x.exams[b]? = some f) : comA x a b = comN e.studs f.studs := by
  have ha1 := (List.getElem?_eq_some_iff.1 ha).1
  have hb1 := (List.getElem?_eq_some_iff.1 hb).1
  unfold comA comV
  rw [if_neg (by omega)]
  simp only [Int.toNat_natCast, ha, hb]
theorem relA_comm {x : Exams} {a b : Int} : relA x a b = relA x b a := by
  by_cases h : examsE x = 0 ∧ 0 ≤ a ∧ a < x.sits.length ∧ 0 ≤ b ∧ b < x.sits.length
  · obtain ⟨h0, h1, h2, h3, h4⟩ := h
    obtain ⟨n, rfl⟩ := Int.eq_ofNat_of_zero_le h1
    obtain ⟨m, rfl⟩ := Int.eq_ofNat_of_zero_le h3
    obtain ⟨s, hs⟩ := getE (show n < x.sits.length by omega)
    obtain ⟨t, ht⟩ := getE (show m < x.sits.length by omega)
    rw [relA_t h0 hs ht, relA_t h0 ht hs, relE_comm]
  · rw [relA_f h, relA_f fun ⟨h0, h1, h2, h3, h4⟩ => h ⟨h0, h3, h4, h1, h2⟩]
theorem comA_comm {x : Exams} {a b : Int} : comA x a b = comA x b a := by
  by_cases h : examsE x = 0 ∧ 0 ≤ a ∧ a < x.exams.length ∧ 0 ≤ b ∧ b < x.exams.length
  · obtain ⟨h0, h1, h2, h3, h4⟩ := h
    obtain ⟨n, rfl⟩ := Int.eq_ofNat_of_zero_le h1
    obtain ⟨m, rfl⟩ := Int.eq_ofNat_of_zero_le h3
    obtain ⟨s, hs⟩ := getE (show n < x.exams.length by omega)
    obtain ⟨t, ht⟩ := getE (show m < x.exams.length by omega)
    rw [comA_t h0 hs ht, comA_t h0 ht hs, comN_comm ((fine_of h0).el _ _ hs).2 ((fine_of h0).el _ _ ht).2]
  · rw [comA_f h, comA_f fun ⟨h0, h1, h2, h3, h4⟩ => h ⟨h0, h3, h4, h1, h2⟩]
theorem c_Relation (x : Exams) (a b : Int) : PCall Tryz.prog 15 [ag x.cells, vint .i64 a, vint .i64 b] (fun r => r = vint .i64 (relA x a b)) := by
  by_cases h : examsE x = 0 ∧ 0 ≤ a ∧ a < x.sits.length ∧ 0 ≤ b ∧ b < x.sits.length
  · obtain ⟨h0, h1, h2, h3, h4⟩ := h
    obtain ⟨n, rfl⟩ := Int.eq_ofNat_of_zero_le h1
    obtain ⟨m, rfl⟩ := Int.eq_ofNat_of_zero_le h3
    obtain ⟨s, hs⟩ := getE (show n < x.sits.length by omega)
    obtain ⟨t, ht⟩ := getE (show m < x.sits.length by omega)
    refine acall_of tok mixed 36 rfl (fn := Tryz.f15) (c := Tryz.f15.body.getD .skip) (by kernel_rfl) (by kernel_rfl) (by kernel_rfl) rfl 0 rfl ?_
    repeat' (first | refine o1 ?_ | refine o2 ?_ | refine k1 ?_ | refine k2 ?_ | refine k3 ?_ | refine k4 ?_ | refine k6 ?_ | refine k7 ?_ | refine k8 ?_ | refine And.intro ?_ ?_ | exact trivial | refine o3 ?_ | refine o4 ?_ | refine o5 ?_ | refine o6 ?_ | refine k5 ?_ | (intro h; first | exact Bool.noConfusion h | exact nz _ h | exact nl h | (simp at h; done) | (simp at h; first | (exfalso; omega) | skip) | skip) | (change retOk _ _ _ _; refine ret_pure rfl trivial ?_) | exact (rfl : allOne _ = true) | (refine (?_ : (0 : Int) ≤ _); omega) | (refine (?_ : _ ≠ _); omega) | (refine (?_ : srcLen _ = rowsLen _); rfl) | exact Nat.le_of_ble_eq_true rfl | exact (by kernel_rfl : drawOk _ _ = true) | refine eqv_len_map ?_ | refine eqv_size ?_ | refine eqv_put (eqv_ck ?_) | refine eqv_zero ?_ | refine eqv_wrap (by omega) (by omega) ?_ | refine eqv_u64 (by omega) (by omega) ?_ | refine eqv_u8 (by omega) (by omega) ?_ | refine eqv_to _ (set_map rfl rfl) ?_ | refine ⟨_, _, (by first | rfl | assumption), at_map (by assumption), ?_⟩ | refine ⟨_, _, (by first | rfl | assumption), (by assumption), ?_⟩ | refine ⟨_, at_map (by assumption), (by decide), ?_⟩ | refine ⟨_, at_map (by assumption), ?_⟩ | (refine (?_ : _ ≤ 140737488355328); simp [rowsLen] <;> omega) | (refine (?_ : _ ≤ 9223372036854775807); simp [rowsLen] <;> omega) | (refine (?_ : _ = rowsLen _); simp [rowsLen] <;> omega) | refine eqv_to _ (app_row rfl) (eqv_to _ app_len ?_) | refine eqv_to _ (app_first rfl) (eqv_to 1 rfl ?_) | refine idx_sl (at_map (by assumption)) (by omega) ?_ | refine idx_ms _ (by first | rfl | assumption) (by first | assumption | omega) ?_ | (change vcFun _ _ _ _ _; refine call_eq rfl (by repeat' (first | trivial | refine And.intro ?_ ?_ | (show 0 + _ ≤ List.length _; simp))) ALeL.refl (c_exams x) rfl ?_) | (change vcFunD _ _ _ _ _; refine callD_eq rfl (by repeat' (first | trivial | refine And.intro ?_ ?_ | (show 0 + _ ≤ List.length _; simp))) ALeL.refl (c_exams x) rfl ?_) | (change vcFun _ _ _ _ _; refine call_eq rfl (by repeat' (first | trivial | refine And.intro ?_ ?_ | (show 0 + _ ≤ List.length _; simp))) ALeL.refl (c_relation x n m s t (fine_of h0) hs ht) rfl ?_) | fail)
    all_goals first
      | (exfalso; omega)
      | exact congrArg (vint .i64) (relA_t h0 hs ht).symm
      | (exfalso; exact (by assumption : ¬ examsE x = 0) h0)
  · refine acall_of tok mixed 36 rfl (fn := Tryz.f15) (c := Tryz.f15.body.getD .skip) (by kernel_rfl) (by kernel_rfl) (by kernel_rfl) rfl 0 rfl ?_
    rw [relA_f h]
    repeat' (first | refine o1 ?_ | refine o2 ?_ | refine k1 ?_ | refine k2 ?_ | refine k3 ?_ | refine k4 ?_ | refine k6 ?_ | refine k7 ?_ | refine k8 ?_ | refine And.intro ?_ ?_ | exact trivial | refine o3 ?_ | refine o4 ?_ | refine o5 ?_ | refine o6 ?_ | refine k5 ?_ | (intro h; first | exact Bool.noConfusion h | exact nz _ h | exact nl h | (simp at h; done) | (simp at h; first | (exfalso; omega) | skip) | skip) | (change retOk _ _ _ _; refine ret_pure rfl trivial ?_) | exact (rfl : allOne _ = true) | (refine (?_ : (0 : Int) ≤ _); omega) | (refine (?_ : _ ≠ _); omega) | (refine (?_ : srcLen _ = rowsLen _); rfl) | exact Nat.le_of_ble_eq_true rfl | exact (by kernel_rfl : drawOk _ _ = true) | refine eqv_len_map ?_ | refine eqv_size ?_ | refine eqv_put (eqv_ck ?_) | refine eqv_zero ?_ | refine eqv_wrap (by omega) (by omega) ?_ | refine eqv_u64 (by omega) (by omega) ?_ | refine eqv_u8 (by omega) (by omega) ?_ | refine eqv_to _ (set_map rfl rfl) ?_ | refine ⟨_, _, (by first | rfl | assumption), at_map (by assumption), ?_⟩ | refine ⟨_, _, (by first | rfl | assumption), (by assumption), ?_⟩ | refine ⟨_, at_map (by assumption), (by decide), ?_⟩ | refine ⟨_, at_map (by assumption), ?_⟩ | (refine (?_ : _ ≤ 140737488355328); simp [rowsLen] <;> omega) | (refine (?_ : _ ≤ 9223372036854775807); simp [rowsLen] <;> omega) | (refine (?_ : _ = rowsLen _); simp [rowsLen] <;> omega) | refine eqv_to _ (app_row rfl) (eqv_to _ app_len ?_) | refine eqv_to _ (app_first rfl) (eqv_to 1 rfl ?_) | refine idx_sl (at_map (by assumption)) (by omega) ?_ | refine idx_ms _ (by first | rfl | assumption) (by first | assumption | omega) ?_ | (change vcFun _ _ _ _ _; refine call_eq rfl (by repeat' (first | trivial | refine And.intro ?_ ?_ | (show 0 + _ ≤ List.length _; simp))) ALeL.refl (c_exams x) rfl ?_) | (change vcFunD _ _ _ _ _; refine callD_eq rfl (by repeat' (first | trivial | refine And.intro ?_ ?_ | (show 0 + _ ≤ List.length _; simp))) ALeL.refl (c_exams x) rfl ?_) | fail)
    all_goals first
      | exact rfl
      | (exfalso; exact h ⟨by assumption, by omega, by omega, by omega, by omega⟩)
theorem c_rRelation (x : Exams) (a b : Int) : PCall Tryz.prog 16 [ag x.cells, vint .i64 a, vint .i64 b] (fun r => r = vint .i64 (relA x a b)) := by
  by_cases h : examsE x = 0 ∧ 0 ≤ a ∧ a < x.sits.length ∧ 0 ≤ b ∧ b < x.sits.length
  · obtain ⟨h0, h1, h2, h3, h4⟩ := h
    obtain ⟨n, rfl⟩ := Int.eq_ofNat_of_zero_le h1
    obtain ⟨m, rfl⟩ := Int.eq_ofNat_of_zero_le h3
    obtain ⟨s, hs⟩ := getE (show n < x.sits.length by omega)
    obtain ⟨t, ht⟩ := getE (show m < x.sits.length by omega)
    refine acall_of tok mixed 36 rfl (fn := Tryz.f16) (c := Tryz.f16.body.getD .skip) (by kernel_rfl) (by kernel_rfl) (by kernel_rfl) rfl 0 rfl ?_
    repeat' (first | refine o1 ?_ | refine o2 ?_ | refine k1 ?_ | refine k2 ?_ | refine k3 ?_ | refine k4 ?_ | refine k6 ?_ | refine k7 ?_ | refine k8 ?_ | refine And.intro ?_ ?_ | exact trivial | refine o3 ?_ | refine o4 ?_ | refine o5 ?_ | refine o6 ?_ | refine k5 ?_ | (intro h; first | exact Bool.noConfusion h | exact nz _ h | exact nl h | (simp at h; done) | (simp at h; first | (exfalso; omega) | skip) | skip) | (change retOk _ _ _ _; refine ret_pure rfl trivial ?_) | exact (rfl : allOne _ = true) | (refine (?_ : (0 : Int) ≤ _); omega) | (refine (?_ : _ ≠ _); omega) | (refine (?_ : srcLen _ = rowsLen _); rfl) | exact Nat.le_of_ble_eq_true rfl | exact (by kernel_rfl : drawOk _ _ = true) | refine eqv_len_map ?_ | refine eqv_size ?_ | refine eqv_put (eqv_ck ?_) | refine eqv_zero ?_ | refine eqv_wrap (by omega) (by omega) ?_ | refine eqv_u64 (by omega) (by omega) ?_ | refine eqv_u8 (by omega) (by omega) ?_ | refine eqv_to _ (set_map rfl rfl) ?_ | refine ⟨_, _, (by first | rfl | assumption), at_map (by assumption), ?_⟩ | refine ⟨_, _, (by first | rfl | assumption), (by assumption), ?_⟩ | refine ⟨_, at_map (by assumption), (by decide), ?_⟩ | refine ⟨_, at_map (by assumption), ?_⟩ | (refine (?_ : _ ≤ 140737488355328); simp [rowsLen] <;> omega) | (refine (?_ : _ ≤ 9223372036854775807); simp [rowsLen] <;> omega) | (refine (?_ : _ = rowsLen _); simp [rowsLen] <;> omega) | refine eqv_to _ (app_row rfl) (eqv_to _ app_len ?_) | refine eqv_to _ (app_first rfl) (eqv_to 1 rfl ?_) | refine idx_sl (at_map (by assumption)) (by omega) ?_ | refine idx_ms _ (by first | rfl | assumption) (by first | assumption | omega) ?_ | (change vcFun _ _ _ _ _; refine call_eq rfl (by repeat' (first | trivial | refine And.intro ?_ ?_ | (show 0 + _ ≤ List.length _; simp))) ALeL.refl (c_rexams x) rfl ?_) | (change vcFunD _ _ _ _ _; refine callD_eq rfl (by repeat' (first | trivial | refine And.intro ?_ ?_ | (show 0 + _ ≤ List.length _; simp))) ALeL.refl (c_rexams x) rfl ?_) | (change vcFun _ _ _ _ _; refine call_eq rfl (by repeat' (first | trivial | refine And.intro ?_ ?_ | (show 0 + _ ≤ List.length _; simp))) ALeL.refl (c_rrelation x n m s t (fine_of h0) hs ht) rfl ?_) | fail)
    all_goals first
      | (exfalso; omega)
      | exact congrArg (vint .i64) (relA_t h0 hs ht).symm
      | (exfalso; exact (by assumption : ¬ examsE x = 0) h0)
  · refine acall_of tok mixed 36 rfl (fn := Tryz.f16) (c := Tryz.f16.body.getD .skip) (by kernel_rfl) (by kernel_rfl) (by kernel_rfl) rfl 0 rfl ?_
    rw [relA_f h]
    repeat' (first | refine o1 ?_ | refine o2 ?_ | refine k1 ?_ | refine k2 ?_ | refine k3 ?_ | refine k4 ?_ | refine k6 ?_ | refine k7 ?_ | refine k8 ?_ | refine And.intro ?_ ?_ | exact trivial | refine o3 ?_ | refine o4 ?_ | refine o5 ?_ | refine o6 ?_ | refine k5 ?_ | (intro h; first | exact Bool.noConfusion h | exact nz _ h | exact nl h | (simp at h; done) | (simp at h; first | (exfalso; omega) | skip) | skip) | (change retOk _ _ _ _; refine ret_pure rfl trivial ?_) | exact (rfl : allOne _ = true) | (refine (?_ : (0 : Int) ≤ _); omega) | (refine (?_ : _ ≠ _); omega) | (refine (?_ : srcLen _ = rowsLen _); rfl) | exact Nat.le_of_ble_eq_true rfl | exact (by kernel_rfl : drawOk _ _ = true) | refine eqv_len_map ?_ | refine eqv_size ?_ | refine eqv_put (eqv_ck ?_) | refine eqv_zero ?_ | refine eqv_wrap (by omega) (by omega) ?_ | refine eqv_u64 (by omega) (by omega) ?_ | refine eqv_u8 (by omega) (by omega) ?_ | refine eqv_to _ (set_map rfl rfl) ?_ | refine ⟨_, _, (by first | rfl | assumption), at_map (by assumption), ?_⟩ | refine ⟨_, _, (by first | rfl | assumption), (by assumption), ?_⟩ | refine ⟨_, at_map (by assumption), (by decide), ?_⟩ | refine ⟨_, at_map (by assumption), ?_⟩ | (refine (?_ : _ ≤ 140737488355328); simp [rowsLen] <;> omega) | (refine (?_ : _ ≤ 9223372036854775807); simp [rowsLen] <;> omega) | (refine (?_ : _ = rowsLen _); simp [rowsLen] <;> omega) | refine eqv_to _ (app_row rfl) (eqv_to _ app_len ?_) | refine eqv_to _ (app_first rfl) (eqv_to 1 rfl ?_) | refine idx_sl (at_map (by assumption)) (by omega) ?_ | refine idx_ms _ (by first | rfl | assumption) (by first | assumption | omega) ?_ | (change vcFun _ _ _ _ _; refine call_eq rfl (by repeat' (first | trivial | refine And.intro ?_ ?_ | (show 0 + _ ≤ List.length _; simp))) ALeL.refl (c_rexams x) rfl ?_) | (change vcFunD _ _ _ _ _; refine callD_eq rfl (by repeat' (first | trivial | refine And.intro ?_ ?_ | (show 0 + _ ≤ List.length _; simp))) ALeL.refl (c_rexams x) rfl ?_) | fail)
    all_goals first
      | exact rfl
      | (exfalso; exact h ⟨by assumption, by omega, by omega, by omega, by omega⟩)
theorem c_Common (x : Exams) (a b : Int) : PCall Tryz.prog 17 [ag x.cells, vint .i64 a, vint .i64 b] (fun r => r = vint .i64 (comA x a b)) := by
  by_cases h : examsE x = 0 ∧ 0 ≤ a ∧ a < x.exams.length ∧ 0 ≤ b ∧ b < x.exams.length
  · obtain ⟨h0, h1, h2, h3, h4⟩ := h
    obtain ⟨n, rfl⟩ := Int.eq_ofNat_of_zero_le h1
    obtain ⟨m, rfl⟩ := Int.eq_ofNat_of_zero_le h3
    obtain ⟨e, he⟩ := getE (show n < x.exams.length by omega)
    obtain ⟨f, hf⟩ := getE (show m < x.exams.length by omega)
    refine acall_of tok mixed 36 rfl (fn := Tryz.f17) (c := Tryz.f17.body.getD .skip) (by kernel_rfl) (by kernel_rfl) (by kernel_rfl) rfl 0 rfl ?_
    repeat' (first | (refine idx_sl (k := n) (at_map he) (by omega) ?_) | (refine idx_sl (k := m) (at_map hf) (by omega) ?_) | refine o1 ?_ | refine o2 ?_ | refine k1 ?_ | refine k2 ?_ | refine k3 ?_ | refine k4 ?_ | refine k6 ?_ | refine k7 ?_ | refine k8 ?_ | refine And.intro ?_ ?_ | exact trivial | refine o3 ?_ | refine o4 ?_ | refine o5 ?_ | refine o6 ?_ | refine k5 ?_ | (intro h; first | exact Bool.noConfusion h | exact nz _ h | exact nl h | (simp at h; done) | (simp at h; first | (exfalso; omega) | skip) | skip) | (change retOk _ _ _ _; refine ret_pure rfl trivial ?_) | exact (rfl : allOne _ = true) | (refine (?_ : (0 : Int) ≤ _); omega) | (refine (?_ : _ ≠ _); omega) | (refine (?_ : srcLen _ = rowsLen _); rfl) | exact Nat.le_of_ble_eq_true rfl | exact (by kernel_rfl : drawOk _ _ = true) | refine eqv_len_map ?_ | refine eqv_size ?_ | refine eqv_put (eqv_ck ?_) | refine eqv_zero ?_ | refine eqv_wrap (by omega) (by omega) ?_ | refine eqv_u64 (by omega) (by omega) ?_ | refine eqv_u8 (by omega) (by omega) ?_ | refine eqv_to _ (set_map rfl rfl) ?_ | refine ⟨_, _, (by first | rfl | assumption), at_map (by assumption), ?_⟩ | refine ⟨_, _, (by first | rfl | assumption), (by assumption), ?_⟩ | refine ⟨_, at_map (by assumption), (by decide), ?_⟩ | refine ⟨_, at_map (by assumption), ?_⟩ | (refine (?_ : _ ≤ 140737488355328); simp [rowsLen] <;> omega) | (refine (?_ : _ ≤ 9223372036854775807); simp [rowsLen] <;> omega) | (refine (?_ : _ = rowsLen _); simp [rowsLen] <;> omega) | refine eqv_to _ (app_row rfl) (eqv_to _ app_len ?_) | refine eqv_to _ (app_first rfl) (eqv_to 1 rfl ?_) | refine idx_sl (at_map (by assumption)) (by omega) ?_ | refine idx_ms _ (by first | rfl | assumption) (by first | assumption | omega) ?_ | (change vcFun _ _ _ _ _; refine call_eq rfl (by repeat' (first | trivial | refine And.intro ?_ ?_ | (show 0 + _ ≤ List.length _; simp))) ALeL.refl (c_exams x) rfl ?_) | (change vcFunD _ _ _ _ _; refine callD_eq rfl (by repeat' (first | trivial | refine And.intro ?_ ?_ | (show 0 + _ ≤ List.length _; simp))) ALeL.refl (c_exams x) rfl ?_) | (change vcFun _ _ _ _ _; refine call_eq rfl (by repeat' (first | trivial | refine And.intro ?_ ?_ | (show 0 + _ ≤ List.length _; simp))) ALeL.refl (c_common x n m e f (fine_of h0) he hf) rfl ?_) | fail)
    all_goals first
      | (exfalso; omega)
      | exact congrArg (vint .i64) (comA_t h0 he hf).symm
      | (exfalso; exact (by assumption : ¬ examsE x = 0) h0)
  · refine acall_of tok mixed 36 rfl (fn := Tryz.f17) (c := Tryz.f17.body.getD .skip) (by kernel_rfl) (by kernel_rfl) (by kernel_rfl) rfl 0 rfl ?_
    rw [comA_f h]
    repeat' (first | refine o1 ?_ | refine o2 ?_ | refine k1 ?_ | refine k2 ?_ | refine k3 ?_ | refine k4 ?_ | refine k6 ?_ | refine k7 ?_ | refine k8 ?_ | refine And.intro ?_ ?_ | exact trivial | refine o3 ?_ | refine o4 ?_ | refine o5 ?_ | refine o6 ?_ | refine k5 ?_ | (intro h; first | exact Bool.noConfusion h | exact nz _ h | exact nl h | (simp at h; done) | (simp at h; first | (exfalso; omega) | skip) | skip) | (change retOk _ _ _ _; refine ret_pure rfl trivial ?_) | exact (rfl : allOne _ = true) | (refine (?_ : (0 : Int) ≤ _); omega) | (refine (?_ : _ ≠ _); omega) | (refine (?_ : srcLen _ = rowsLen _); rfl) | exact Nat.le_of_ble_eq_true rfl | exact (by kernel_rfl : drawOk _ _ = true) | refine eqv_len_map ?_ | refine eqv_size ?_ | refine eqv_put (eqv_ck ?_) | refine eqv_zero ?_ | refine eqv_wrap (by omega) (by omega) ?_ | refine eqv_u64 (by omega) (by omega) ?_ | refine eqv_u8 (by omega) (by omega) ?_ | refine eqv_to _ (set_map rfl rfl) ?_ | refine ⟨_, _, (by first | rfl | assumption), at_map (by assumption), ?_⟩ | refine ⟨_, _, (by first | rfl | assumption), (by assumption), ?_⟩ | refine ⟨_, at_map (by assumption), (by decide), ?_⟩ | refine ⟨_, at_map (by assumption), ?_⟩ | (refine (?_ : _ ≤ 140737488355328); simp [rowsLen] <;> omega) | (refine (?_ : _ ≤ 9223372036854775807); simp [rowsLen] <;> omega) | (refine (?_ : _ = rowsLen _); simp [rowsLen] <;> omega) | refine eqv_to _ (app_row rfl) (eqv_to _ app_len ?_) | refine eqv_to _ (app_first rfl) (eqv_to 1 rfl ?_) | refine idx_sl (at_map (by assumption)) (by omega) ?_ | refine idx_ms _ (by first | rfl | assumption) (by first | assumption | omega) ?_ | (change vcFun _ _ _ _ _; refine call_eq rfl (by repeat' (first | trivial | refine And.intro ?_ ?_ | (show 0 + _ ≤ List.length _; simp))) ALeL.refl (c_exams x) rfl ?_) | (change vcFunD _ _ _ _ _; refine callD_eq rfl (by repeat' (first | trivial | refine And.intro ?_ ?_ | (show 0 + _ ≤ List.length _; simp))) ALeL.refl (c_exams x) rfl ?_) | fail)
    all_goals first
      | exact rfl
      | (exfalso; exact h ⟨by assumption, by omega, by omega, by omega, by omega⟩)
theorem c_rCommon (x : Exams) (a b : Int) : PCall Tryz.prog 18 [ag x.cells, vint .i64 a, vint .i64 b] (fun r => r = vint .i64 (comA x a b)) := by
  by_cases h : examsE x = 0 ∧ 0 ≤ a ∧ a < x.exams.length ∧ 0 ≤ b ∧ b < x.exams.length
  · obtain ⟨h0, h1, h2, h3, h4⟩ := h
    obtain ⟨n, rfl⟩ := Int.eq_ofNat_of_zero_le h1
    obtain ⟨m, rfl⟩ := Int.eq_ofNat_of_zero_le h3
    obtain ⟨e, he⟩ := getE (show n < x.exams.length by omega)
    obtain ⟨f, hf⟩ := getE (show m < x.exams.length by omega)
    refine acall_of tok mixed 43 rfl (fn := Tryz.f18) (c := Tryz.f18.body.getD .skip) (by kernel_rfl) (by kernel_rfl) (by kernel_rfl) rfl 0 rfl ?_
    repeat' (first | (refine idx_sl (k := n) (at_map he) (by omega) ?_) | (refine idx_sl (k := m) (at_map hf) (by omega) ?_) | refine o1 ?_ | refine o2 ?_ | refine k1 ?_ | refine k2 ?_ | refine k3 ?_ | refine k4 ?_ | refine k6 ?_ | refine k7 ?_ | refine k8 ?_ | refine And.intro ?_ ?_ | exact trivial | refine o3 ?_ | refine o4 ?_ | refine o5 ?_ | refine o6 ?_ | refine k5 ?_ | (intro h; first | exact Bool.noConfusion h | exact nz _ h | exact nl h | (simp at h; done) | (simp at h; first | (exfalso; omega) | skip) | skip) | (change retOk _ _ _ _; refine ret_pure rfl trivial ?_) | exact (rfl : allOne _ = true) | (refine (?_ : (0 : Int) ≤ _); omega) | (refine (?_ : _ ≠ _); omega) | (refine (?_ : srcLen _ = rowsLen _); rfl) | exact Nat.le_of_ble_eq_true rfl | exact (by kernel_rfl : drawOk _ _ = true) | refine eqv_len_map ?_ | refine eqv_size ?_ | refine eqv_put (eqv_ck ?_) | refine eqv_zero ?_ | refine eqv_wrap (by omega) (by omega) ?_ | refine eqv_u64 (by omega) (by omega) ?_ | refine eqv_u8 (by omega) (by omega) ?_ | refine eqv_to _ (set_map rfl rfl) ?_ | refine ⟨_, _, (by first | rfl | assumption), at_map (by assumption), ?_⟩ | refine ⟨_, _, (by first | rfl | assumption), (by assumption), ?_⟩ | refine ⟨_, at_map (by assumption), (by decide), ?_⟩ | refine ⟨_, at_map (by assumption), ?_⟩ | (refine (?_ : _ ≤ 140737488355328); simp [rowsLen] <;> omega) | (refine (?_ : _ ≤ 9223372036854775807); simp [rowsLen] <;> omega) | (refine (?_ : _ = rowsLen _); simp [rowsLen] <;> omega) | refine eqv_to _ (app_row rfl) (eqv_to _ app_len ?_) | refine eqv_to _ (app_first rfl) (eqv_to 1 rfl ?_) | refine idx_sl (at_map (by assumption)) (by omega) ?_ | refine idx_ms _ (by first | rfl | assumption) (by first | assumption | omega) ?_ | (change vcFun _ _ _ _ _; refine call_eq rfl (by repeat' (first | trivial | refine And.intro ?_ ?_ | (show 0 + _ ≤ List.length _; simp))) ALeL.refl (c_rexams x) rfl ?_) | (change vcFunD _ _ _ _ _; refine callD_eq rfl (by repeat' (first | trivial | refine And.intro ?_ ?_ | (show 0 + _ ≤ List.length _; simp))) ALeL.refl (c_rexams x) rfl ?_) | (change vcFunD _ _ _ _ _; refine callD_eq rfl (by repeat' (first | trivial | refine And.intro ?_ ?_ | (show 0 + _ ≤ List.length _; simp))) ALeL.refl (c_rcommon e f ((fine_of h0).el _ _ he).1 ((fine_of h0).el _ _ hf).1) rfl ?_) | fail)
    all_goals first
      | (exfalso; omega)
      | exact congrArg (vint .i64) (comA_t h0 he hf).symm
      | (exfalso; exact (by assumption : ¬ examsE x = 0) h0)
  · refine acall_of tok mixed 43 rfl (fn := Tryz.f18) (c := Tryz.f18.body.getD .skip) (by kernel_rfl) (by kernel_rfl) (by kernel_rfl) rfl 0 rfl ?_
    rw [comA_f h]
    repeat' (first | refine o1 ?_ | refine o2 ?_ | refine k1 ?_ | refine k2 ?_ | refine k3 ?_ | refine k4 ?_ | refine k6 ?_ | refine k7 ?_ | refine k8 ?_ | refine And.intro ?_ ?_ | exact trivial | refine o3 ?_ | refine o4 ?_ | refine o5 ?_ | refine o6 ?_ | refine k5 ?_ | (intro h; first | exact Bool.noConfusion h | exact nz _ h | exact nl h | (simp at h; done) | (simp at h; first | (exfalso; omega) | skip) | skip) | (change retOk _ _ _ _; refine ret_pure rfl trivial ?_) | exact (rfl : allOne _ = true) | (refine (?_ : (0 : Int) ≤ _); omega) | (refine (?_ : _ ≠ _); omega) | (refine (?_ : srcLen _ = rowsLen _); rfl) | exact Nat.le_of_ble_eq_true rfl | exact (by kernel_rfl : drawOk _ _ = true) | refine eqv_len_map ?_ | refine eqv_size ?_ | refine eqv_put (eqv_ck ?_) | refine eqv_zero ?_ | refine eqv_wrap (by omega) (by omega) ?_ | refine eqv_u64 (by omega) (by omega) ?_ | refine eqv_u8 (by omega) (by omega) ?_ | refine eqv_to _ (set_map rfl rfl) ?_ | refine ⟨_, _, (by first | rfl | assumption), at_map (by assumption), ?_⟩ | refine ⟨_, _, (by first | rfl | assumption), (by assumption), ?_⟩ | refine ⟨_, at_map (by assumption), (by decide), ?_⟩ | refine ⟨_, at_map (by assumption), ?_⟩ | (refine (?_ : _ ≤ 140737488355328); simp [rowsLen] <;> omega) | (refine (?_ : _ ≤ 9223372036854775807); simp [rowsLen] <;> omega) | (refine (?_ : _ = rowsLen _); simp [rowsLen] <;> omega) | refine eqv_to _ (app_row rfl) (eqv_to _ app_len ?_) | refine eqv_to _ (app_first rfl) (eqv_to 1 rfl ?_) | refine idx_sl (at_map (by assumption)) (by omega) ?_ | refine idx_ms _ (by first | rfl | assumption) (by first | assumption | omega) ?_ | (change vcFun _ _ _ _ _; refine call_eq rfl (by repeat' (first | trivial | refine And.intro ?_ ?_ | (show 0 + _ ≤ List.length _; simp))) ALeL.refl (c_rexams x) rfl ?_) | (change vcFunD _ _ _ _ _; refine callD_eq rfl (by repeat' (first | trivial | refine And.intro ?_ ?_ | (show 0 + _ ≤ List.length _; simp))) ALeL.refl (c_rexams x) rfl ?_) | fail)
    all_goals first
      | exact rfl
      | (exfalso; exact h ⟨by assumption, by omega, by omega, by omega, by omega⟩)
end Go.Proofs.YtpnghlibmpainaaGreat.Cw

/-
  The example with which each law of chapter 32 begins: it answers true. No conditions.
-/
namespace Go.Proofs.YtpnghlibmpainaaGreat.Cw
open Go.Cw Go.Proofs
theorem awake_ok : PCall Tryz.prog 9 [] (fun r => r = vbool true) := by
  have h : exFun T F 100000 20 9 [] [] = some (vbool true, []) := by kernel_rfl
  exact (exFun_ok tok fok mixed 100000 20 9 [] [] _ _ h).mono fun r H' e => ⟨e.2, e.1⟩
end Go.Proofs.YtpnghlibmpainaaGreat.Cw

/-
  What the laws of chapter 32 are handed.
-/
namespace Go.Proofs.YtpnghlibmpainaaGreat.Cw
open Go.Cw Go.Proofs
set_option linter.unusedVariables false
set_option maxRecDepth 100000

theorem in_int {qs : List PV} (h : PTy T 3 qs) : ∃ n : Int, qs = [ei n] ∧ -9223372036854775808 ≤ n ∧ n ≤ 9223372036854775807 := kd_int (by kernel_rfl) h
theorem in_str {qs : List PV} (h : PTy T 9 qs) : ∃ s : Str, qs = [es s] := by
  obtain ⟨s, h, _⟩ := kd_str (by kernel_rfl) h
  exact ⟨s, h⟩
theorem in_int1 {qs : List PV} (h : PTy T 3 qs) : ∃ n : Int, qs = [ei n] := by
  obtain ⟨s, h, _⟩ := in_int h
  exact ⟨s, h⟩
theorem in_strs {qs : List PV} (h : PTy T 67 qs) : ∃ l : List Str, qs = [encStrs l] := by
  obtain ⟨l, h, _⟩ := kd_slice (fun s => [es s]) (fun _ => True) (e := 9) (z := 1) (by kernel_rfl) (fun r hr => by obtain ⟨s, h⟩ := in_str hr; exact ⟨s, h, trivial⟩) h
  exact ⟨l, h⟩
theorem in_ints {qs : List PV} (h : PTy T 24 qs) : ∃ l : List Int, qs = [encInts l] := by
  obtain ⟨l, h, _⟩ := kd_slice (fun s => [ei s]) (fun _ => True) (e := 3) (z := 1) (by kernel_rfl) (fun r hr => by obtain ⟨s, h⟩ := in_int1 hr; exact ⟨s, h, trivial⟩) h
  exact ⟨l, h⟩
theorem in_time {qs : List PV} (h : PTy T 38 qs) : ∃ x : Time, qs = x.row := by
  obtain ⟨_, _, rfl, h1, h⟩ := kd_cons (kd_struct (ts := [3, 3, 3, 3]) (by kernel_rfl) h)
  obtain ⟨_, _, rfl, h2, h⟩ := kd_cons h
  obtain ⟨_, _, rfl, h3, h⟩ := kd_cons h
  obtain ⟨_, _, rfl, h4, h⟩ := kd_cons h
  obtain rfl := kd_nil h
  obtain ⟨a, rfl⟩ := in_int1 h1
  obtain ⟨b, rfl⟩ := in_int1 h2
  obtain ⟨c, rfl⟩ := in_int1 h3
  obtain ⟨d, rfl⟩ := in_int1 h4
  exact ⟨⟨a, b, c, d⟩, rfl⟩
theorem in_times {qs : List PV} (h : PTy T 70 qs) : ∃ l : List Time, qs = [encTimes l] := by
  obtain ⟨l, h, _⟩ := kd_slice Time.row (fun _ => True) (e := 38) (z := 4) (by kernel_rfl) (fun r hr => by obtain ⟨s, h⟩ := in_time hr; exact ⟨s, h, trivial⟩) h
  exact ⟨l, h⟩
theorem in_room {qs : List PV} (h : PTy T 72 qs) : ∃ x : Room, qs = x.row := by
  obtain ⟨_, _, rfl, h1, h⟩ := kd_cons (kd_struct (ts := [9, 9, 3, 67, 70]) (by kernel_rfl) h)
  obtain ⟨_, _, rfl, h2, h⟩ := kd_cons h
  obtain ⟨_, _, rfl, h3, h⟩ := kd_cons h
  obtain ⟨_, _, rfl, h4, h⟩ := kd_cons h
  obtain ⟨_, _, rfl, h5, h⟩ := kd_cons h
  obtain rfl := kd_nil h
  obtain ⟨a, rfl⟩ := in_str h1
  obtain ⟨b, rfl⟩ := in_str h2
  obtain ⟨c, rfl⟩ := in_int1 h3
  obtain ⟨d, rfl⟩ := in_strs h4
  obtain ⟨e, rfl⟩ := in_times h5
  exact ⟨⟨a, b, c, d, e⟩, rfl⟩
theorem in_rooms {qs : List PV} (h : PTy T 27 qs) : ∃ l : List Room, qs = [encRooms l] := by
  obtain ⟨l, h, _⟩ := kd_slice Room.row (fun _ => True) (e := 72) (z := 5) (by kernel_rfl) (fun r hr => by obtain ⟨s, h⟩ := in_room hr; exact ⟨s, h, trivial⟩) h
  exact ⟨l, h⟩
theorem in_exam {qs : List PV} (h : PTy T 69 qs) : ∃ x : Exam, qs = x.row := by
  obtain ⟨_, _, rfl, h1, h⟩ := kd_cons (kd_struct (ts := [9, 3, 67, 67]) (by kernel_rfl) h)
  obtain ⟨_, _, rfl, h2, h⟩ := kd_cons h
  obtain ⟨_, _, rfl, h3, h⟩ := kd_cons h
  obtain ⟨_, _, rfl, h4, h⟩ := kd_cons h
  obtain rfl := kd_nil h
  obtain ⟨a, rfl⟩ := in_str h1
  obtain ⟨b, rfl⟩ := in_int1 h2
  obtain ⟨c, rfl⟩ := in_strs h3
  obtain ⟨d, rfl⟩ := in_strs h4
  exact ⟨⟨a, b, c, d⟩, rfl⟩
theorem in_exams1 {qs : List PV} (h : PTy T 28 qs) : ∃ l : List Exam, qs = [.sl 4 (l.map Exam.row)] := by
  obtain ⟨l, h, _⟩ := kd_slice Exam.row (fun _ => True) (e := 69) (z := 4) (by kernel_rfl) (fun r hr => by obtain ⟨s, h⟩ := in_exam hr; exact ⟨s, h, trivial⟩) h
  exact ⟨l, h⟩
theorem in_sit {qs : List PV} (h : PTy T 23 qs) : ∃ x : Sitting, qs = x.row := by
  obtain ⟨_, _, rfl, h1, h⟩ := kd_cons (kd_struct (ts := [3, 3, 3, 3]) (by kernel_rfl) h)
  obtain ⟨_, _, rfl, h2, h⟩ := kd_cons h
  obtain ⟨_, _, rfl, h3, h⟩ := kd_cons h
  obtain ⟨_, _, rfl, h4, h⟩ := kd_cons h
  obtain rfl := kd_nil h
  obtain ⟨a, rfl⟩ := in_int1 h1
  obtain ⟨b, rfl⟩ := in_int1 h2
  obtain ⟨c, rfl⟩ := in_int1 h3
  obtain ⟨d, rfl⟩ := in_int1 h4
  exact ⟨⟨a, b, c, d⟩, rfl⟩
theorem in_sits {qs : List PV} (h : PTy T 29 qs) : ∃ l : List Sitting, qs = [.sl 4 (l.map Sitting.row)] := by
  obtain ⟨l, h, _⟩ := kd_slice Sitting.row (fun _ => True) (e := 23) (z := 4) (by kernel_rfl) (fun r hr => by obtain ⟨s, h⟩ := in_sit hr; exact ⟨s, h, trivial⟩) h
  exact ⟨l, h⟩
theorem in_gaps {qs : List PV} (h : PTy T 31 qs) : ∃ g : Gaps, qs = [ei g.row, ei g.day, ei g.near, ei g.days, ei g.mixed] := by
  obtain ⟨_, _, rfl, h1, h⟩ := kd_cons (kd_struct (ts := [3, 3, 3, 3, 3]) (by kernel_rfl) h)
  obtain ⟨_, _, rfl, h2, h⟩ := kd_cons h
  obtain ⟨_, _, rfl, h3, h⟩ := kd_cons h
  obtain ⟨_, _, rfl, h4, h⟩ := kd_cons h
  obtain ⟨_, _, rfl, h5, h⟩ := kd_cons h
  obtain rfl := kd_nil h
  obtain ⟨a, rfl⟩ := in_int1 h1
  obtain ⟨b, rfl⟩ := in_int1 h2
  obtain ⟨c, rfl⟩ := in_int1 h3
  obtain ⟨d, rfl⟩ := in_int1 h4
  obtain ⟨e, rfl⟩ := in_int1 h5
  exact ⟨⟨a, b, c, d, e⟩, rfl⟩
theorem in_examinations {qs : List PV} (h : PTy T 33 qs) : ∃ x : Exams, qs = x.cells := by
  obtain ⟨_, _, rfl, h1, h⟩ := kd_cons (kd_struct (ts := [27, 28, 29, 31]) (by kernel_rfl) h)
  obtain ⟨_, _, rfl, h2, h⟩ := kd_cons h
  obtain ⟨_, _, rfl, h3, h⟩ := kd_cons h
  obtain ⟨_, _, rfl, h4, h⟩ := kd_cons h
  obtain rfl := kd_nil h
  obtain ⟨a, rfl⟩ := in_rooms h1
  obtain ⟨b, rfl⟩ := in_exams1 h2
  obtain ⟨c, rfl⟩ := in_sits h3
  obtain ⟨d, rfl⟩ := in_gaps h4
  exact ⟨⟨a, b, c, d⟩, rfl⟩
theorem args_exams {ts : List TypeId} {al : List AV} (h : ArgsOk T (33 :: ts) al) : ∃ (x : Exams) (al' : _), al = ag x.cells :: al' ∧ ArgsOk T ts al' := by
  obtain ⟨qs, al', rfl, h1, h2⟩ := args_agg (by kernel_rfl) h
  obtain ⟨x, rfl⟩ := in_examinations h1
  exact ⟨x, al', rfl, h2⟩
theorem args_ints {ts : List TypeId} {al : List AV} (h : ArgsOk T (24 :: ts) al) : ∃ (l : List Int) (al' : _), al = .pv (encInts l) :: al' ∧ ArgsOk T ts al' := by
  obtain ⟨q, al', rfl, h1, h2⟩ := args_one (by kernel_rfl) h
  obtain ⟨l, h⟩ := in_ints h1
  injection h with h; subst h
  exact ⟨l, al', rfl, h2⟩
theorem args_int {ts : List TypeId} {al : List AV} (h : ArgsOk T (3 :: ts) al) : ∃ (n : Int) (al' : _), al = vint .i64 n :: al' ∧ -9223372036854775808 ≤ n ∧ n ≤ 9223372036854775807 ∧ ArgsOk T ts al' := by
  obtain ⟨q, al', rfl, h1, h2⟩ := args_one (by kernel_rfl) h
  obtain ⟨n, h, a, b⟩ := in_int h1
  injection h with h; subst h
  exact ⟨n, al', rfl, a, b, h2⟩
theorem args_sit {ts : List TypeId} {al : List AV} (h : ArgsOk T (23 :: ts) al) : ∃ (x : Sitting) (al' : _), al = ag x.row :: al' ∧ ArgsOk T ts al' := by
  obtain ⟨qs, al', rfl, h1, h2⟩ := args_agg (by kernel_rfl) h
  obtain ⟨x, rfl⟩ := in_sit h1
  exact ⟨x, al', rfl, h2⟩
end Go.Proofs.YtpnghlibmpainaaGreat.Cw


