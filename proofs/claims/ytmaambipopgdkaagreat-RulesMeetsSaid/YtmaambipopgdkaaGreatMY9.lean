/-
  Part 9 of the proof (V7, V8, A4): what later parts use. No conditions.
-/
import Derived.Test.YtmaambipopgdkaaGreatMY8

/-
  The law on rules that meet.
-/
namespace Go.Proofs.YtmaambipopgdkaaGreat.Cw
open Go.Cw Go.Proofs
set_option linter.unusedVariables false
set_option maxRecDepth 100000
set_option maxHeartbeats 8000000

theorem dtime2 (t : List Int) (g : Grid) (ht : t.length ≤ 400) (hg : 1 ≤ g.slots ∧ g.slots ≤ 24) (hd : 1 ≤ g.days ∧ g.days ≤ 7) :
    ∃ (x y : Time) (k l : Nat), ACall Tryz.prog 24 [.ptr 0 2 0 0, ag g.row, vint .i64 4] [dice t 0] (fun r H' => r = ag x.row ∧ H' = [dice t k]) ∧ ACall Tryz.prog 24 [.ptr 0 2 0 0, ag g.row, vint .i64 4] [dice t k] (fun r H' => r = ag y.row ∧ H' = [dice t l]) :=
  ⟨_, _, _, _, c_dtime t 0 g ht (Nat.zero_le _) hg hd, c_dtime t _ g ht (dtime_le (Nat.zero_le _)) hg hd⟩
def rN (kd m : Int) : List PV := [es (ByteArray.mk #[117]), ei 0, ei kd, ei 1, es (ByteArray.mk #[]), .val (.slice none 0 0), ei 0, es (ByteArray.mk #[]), .val (.slice none 0 0), ei m, .val (.slice none 0 0), .val (.slice none 0 0), ei 0]
def sN : List PV := [ei 1, es (ByteArray.mk #[]), .val (.slice none 0 0)]
theorem hU (kd m : Int) : ALe (.agg (pvs (rN kd m))) (ag (sU kd m).row) :=
    ALe.agg ⟨ALe.refl, ALe.refl, ALe.refl, ALe.refl, ALe.refl, ALe.pv PLe.nil, ALe.refl, ALe.refl, ALe.pv PLe.nil, ALe.refl, ALe.pv PLe.nil, ALe.pv PLe.nil, ALe.refl, trivial⟩
theorem hS : ALe (.agg (pvs sN)) (ag (Sel.mk 1 (ByteArray.mk #[]) []).row) := by
    rw [row_cells]; exact ALe.agg ⟨ALe.refl, ALe.refl, ALe.pv PLe.nil, trivial⟩
theorem rm_walk (t : List Int) (n : Int) (r : Reg) (x y : Time) (j l : Nat) (B : Bool) (G k r1 r2 r3 : Int) (L : List Int) (hL : L.length = 3) (hk : 0 ≤ k ∧ k ≤ 7)
    (h0 : PCall Tryz.prog 21 [.pv (encInts t)] (fun r => r = vbool true))
    (h1 : PCall Tryz.prog 16 [] (fun a => a = vbool true))
    (h3 : PCall Tryz.prog 23 [] (fun a => a = ag r.cells))
    (h4 : ACall Tryz.prog 24 [.ptr 0 2 0 0, ag r.grid.row, vint .i64 4] [dice t 0] (fun r H' => r = ag x.row ∧ H' = [dice t j]))
    (h5 : ACall Tryz.prog 24 [.ptr 0 2 0 0, ag r.grid.row, vint .i64 4] [dice t j] (fun r H' => r = ag y.row ∧ H' = [dice t l]))
    (h6 : PCall Tryz.prog 25 [ag x.row, ag y.row] (fun r => r = .tup [vint .i64 G, vbool B]))
    (h7 : PCall Tryz.prog 26 [vint .i64 n, vint .i64 8] (fun r => r = vint .i64 k))
    (h8 : PCall Tryz.prog 29 [ag r.cells] (fun a => a = vint .i64 0))
    (h9 : PCall Tryz.prog 28 [ag r.cells, .agg (pvs sN)] (fun a => a = .tup [.pv (encInts L), vint .i64 0]))
    (T1 : PCall Tryz.prog 27 [ag r.cells, .agg (pvs (rN 1 0)), vint .i64 0, vint .i64 2, ag (Placed.mk x 0).row, ag (Placed.mk y 0).row] (fun v => v = .tup [vint .i64 r1, vint .i64 0]))
    (T2 : PCall Tryz.prog 27 [ag r.cells, .agg (pvs (rN 3 0)), vint .i64 0, vint .i64 2, ag (Placed.mk x 0).row, ag (Placed.mk y 0).row] (fun v => v = .tup [vint .i64 r2, vint .i64 0]))
    (T3 : PCall Tryz.prog 27 [ag r.cells, .agg (pvs (rN 8 k)), vint .i64 0, vint .i64 2, ag (Placed.mk x 0).row, ag (Placed.mk y 0).row] (fun v => v = .tup [vint .i64 r3, vint .i64 0]))
    (e1 : r1 = if B && decide (G < 0) then 1 else 0) (e2 : r2 = if B then 1 else 0) (e3 : r3 = if B && decide (G < k) then 1 else 0) :
    PCall Tryz.prog 5 [.pv (encInts t), vint .i64 n] (fun a => a = vbool true) := by
  have h2 := c_roll t
  have q : (B = false ∧ r1 = 0 ∧ r2 = 0 ∧ r3 = 0) ∨ (B = true ∧ r2 = 1 ∧ ((G < 0 ∧ r1 = 1) ∨ (¬ G < 0 ∧ r1 = 0)) ∧ ((G < k ∧ r3 = 1) ∨ (¬ G < k ∧ r3 = 0))) := by
    cases B
    · left; simp at e1 e2 e3; exact ⟨rfl, e1, e2, e3⟩
    · right
      refine ⟨rfl, by simpa using e2, ?_, ?_⟩
      · by_cases h : G < 0
        · left; simp [h] at e1; exact ⟨h, e1⟩
        · right; simp [h] at e1; exact ⟨h, e1⟩
      · by_cases h : G < k
        · left; simp [h] at e3; exact ⟨h, e3⟩
        · right; simp [h] at e3; exact ⟨h, e3⟩
  clear e1 e2 e3
  rcases q with ⟨rfl, rfl, rfl, rfl⟩ | ⟨rfl, rfl, ⟨g1, rfl⟩ | ⟨g1, rfl⟩, ⟨g2, rfl⟩ | ⟨g2, rfl⟩⟩
  all_goals
    refine acall_of tok mixed 123 rfl (fn := Tryz.f5) (c := Tryz.f5.body.getD .skip) (by kernel_rfl) (by kernel_rfl) (by kernel_rfl) rfl 0 rfl ?_
    repeat' (first | ((change vcFun _ _ _ _ _; refine call_new [.pv (encInts t)] rfl h2 (fun _ _ => rfl) ?_)) | ((change vcFun _ _ _ _ _; refine call_frz rfl (by repeat' (first | trivial | refine And.intro ?_ ?_ | (show 0 + _ ≤ List.length _; simp))) ALeL.refl h3 ?_; rintro _ rfl)) | ((change vcFunD _ _ _ _ _; refine callD_one (i := 0) rfl (fun _ _ => rfl) [.ptr 0 2 0 0, ag r.grid.row, vint .i64 4] rfl h4 (fun _ _ => rfl) (fun _ _ => rfl) ?_)) | ((change vcFunD _ _ _ _ _; refine callD_one (i := 0) rfl (fun _ _ => rfl) [.ptr 0 2 0 0, ag r.grid.row, vint .i64 4] rfl h5 (fun _ _ => rfl) (fun _ _ => rfl) ?_)) | ((change vcFun _ _ _ _ _; refine call_frz rfl (by repeat' (first | trivial | refine And.intro ?_ ?_ | (show 0 + _ ≤ List.length _; simp))) ALeL.refl T1 ?_; rintro _ rfl)) | ((change vcFun _ _ _ _ _; refine call_frz rfl (by repeat' (first | trivial | refine And.intro ?_ ?_ | (show 0 + _ ≤ List.length _; simp))) ALeL.refl T2 ?_; rintro _ rfl)) | ((change vcFun _ _ _ _ _; refine call_frz rfl (by repeat' (first | trivial | refine And.intro ?_ ?_ | (show 0 + _ ≤ List.length _; simp))) ALeL.refl T3 ?_; rintro _ rfl)) | ((change vcFun _ _ _ _ _; refine call_frz rfl (by repeat' (first | trivial | refine And.intro ?_ ?_ | (show 0 + _ ≤ List.length _; simp))) ALeL.refl h9 ?_; rintro _ rfl)) | (refine code_rounds 4 ?_) | (refine ⟨0, rfl, (by decide : 0 < 3), ?_⟩) | (refine ⟨1, rfl, (by decide : 1 < 3), ?_⟩) | (refine ⟨2, rfl, (by decide : 2 < 3), ?_⟩) | refine o1 ?_ | refine o2 ?_ | refine k1 ?_ | refine k2 ?_ | refine k3 ?_ | refine k4 ?_ | refine k6 ?_ | refine k7 ?_ | refine k8 ?_ | refine And.intro ?_ ?_ | refine o3 ?_ | refine o4 ?_ | (intro h; first | exact Bool.noConfusion h | exact nz _ h | exact nl h | (simp at h; done) | (simp at h; first | (exfalso; omega) | skip) | skip) | (change retOk _ _ _ _; refine ret_pure rfl trivial ?_) | exact (by kernel_rfl : drawOk _ _ = true) | refine eqv_len_map ?_ | refine eqv_wrap (by omega) (by omega) ?_ | (change vcFun _ _ _ _ _; refine call_eq rfl (by repeat' (first | trivial | refine And.intro ?_ ?_ | (show 0 + _ ≤ List.length _; simp))) ALeL.refl (h0) rfl ?_) | (change vcFun _ _ _ _ _; refine call_eq rfl (by repeat' (first | trivial | refine And.intro ?_ ?_ | (show 0 + _ ≤ List.length _; simp))) ALeL.refl (h1) rfl ?_) | (change vcFun _ _ _ _ _; refine call_eq rfl (by repeat' (first | trivial | refine And.intro ?_ ?_ | (show 0 + _ ≤ List.length _; simp))) ALeL.refl (h6) rfl ?_) | (change vcFun _ _ _ _ _; refine call_eq rfl (by repeat' (first | trivial | refine And.intro ?_ ?_ | (show 0 + _ ≤ List.length _; simp))) ALeL.refl (h7) rfl ?_) | (change vcFun _ _ _ _ _; refine call_eq rfl (by repeat' (first | trivial | refine And.intro ?_ ?_ | (show 0 + _ ≤ List.length _; simp))) ALeL.refl (h8) rfl ?_) | fail)
  all_goals rfl
end Go.Proofs.YtmaambipopgdkaaGreat.Cw

/-
  The law on rules that meet, for all arguments.
-/
namespace Go.Proofs.YtmaambipopgdkaaGreat.Cw
open Go Go.Cw Go.Proofs
set_option linter.unusedVariables false
set_option maxRecDepth 100000
theorem clsL_s : (clsL sR (.mk 1 (ByteArray.mk #[]) [])).length = 3 := by
  have e1 : clsE0 sR (.mk 1 (ByteArray.mk #[]) []) = 0 := by unfold clsE0; rw [if_pos regE_sR, selE_s.1]
  have h : ∀ c, hasS sR c (.mk 1 (ByteArray.mk #[]) []) = true := fun c => by
    rw [hasS, if_neg (by decide), if_neg (by decide), if_neg (by decide)]
    exact if_pos rfl
  have h2 : ∀ i c, selF sR (.mk 1 (ByteArray.mk #[]) []) i c = some (i : Int) := fun i c => if_pos (h c)
  unfold clsL
  rw [if_pos e1]
  unfold clsV
  show (upto [sK 49, sK 50, sK 51] (selF sR (.mk 1 (ByteArray.mk #[]) [])) 3).length = 3
  rw [show selF sR (.mk 1 (ByteArray.mk #[]) []) = fun (i : Nat) (_ : Class) => some (i : Int) from funext fun i => funext fun c => h2 i c]
  rfl
theorem pair1 {a b : Placed} : pB (pairP2 sR (sU 1 0) ⟨[], []⟩ a b) = (pB (meetP a.time b.time) && decide (btw a.time b.time < 0)) := by
  by_cases hm : meetP a.time b.time
  · rw [pB_t hm]
    by_cases hg : btw a.time b.time < 0
    · rw [pB_t (.inl ⟨rfl, hm, hg⟩), decide_eq_true hg]; rfl
    · rw [pB_f ?_, decide_eq_false hg]; rfl
      unfold pairP2
      show ¬ (((1 : Int) = 1 ∧ _) ∨ _)
      rintro (⟨-, -, h⟩ | ⟨h, -⟩ | ⟨h, -⟩ | ⟨h, -⟩ | ⟨h, -⟩ | ⟨h, -⟩ | ⟨h, -⟩ | ⟨h, -⟩)
      · exact hg h
      all_goals exact absurd h (by decide)
  · rw [pB_f hm, pB_f ?_]; rfl
    unfold pairP2
    rintro (⟨-, h, -⟩ | ⟨h, -⟩ | ⟨h, -⟩ | ⟨h, -⟩ | ⟨h, -⟩ | ⟨h, -⟩ | ⟨h, -⟩ | ⟨h, -⟩)
    · exact hm h
    all_goals exact absurd h (by decide)
theorem pair3 {a b : Placed} : pB (pairP2 sR (sU 3 0) ⟨[], []⟩ a b) = pB (meetP a.time b.time) := by
  by_cases hm : meetP a.time b.time
  · rw [pB_t hm, pB_t (.inr (.inr (.inl ⟨rfl, hm⟩)))]
  · rw [pB_f hm, pB_f ?_]
    unfold pairP2
    rintro (⟨h, -⟩ | ⟨h, -⟩ | ⟨-, h⟩ | ⟨h, -⟩ | ⟨h, -⟩ | ⟨h, -⟩ | ⟨h, -⟩ | ⟨h, -⟩)
    rotate_left 2
    · exact hm h
    all_goals exact absurd h (by decide)
theorem pair8 {k : Int} {a b : Placed} : pB (pairP2 sR (sU 8 k) ⟨[], []⟩ a b) = (pB (meetP a.time b.time) && decide (btw a.time b.time < k)) := by
  by_cases hm : meetP a.time b.time
  · rw [pB_t hm]
    by_cases hg : btw a.time b.time < k
    · rw [pB_t (.inr (.inr (.inr (.inr (.inr (.inl ⟨rfl, hm, hg⟩)))))), decide_eq_true hg]; rfl
    · rw [pB_f ?_, decide_eq_false hg]; rfl
      unfold pairP2
      rintro (⟨h, -⟩ | ⟨h, -⟩ | ⟨h, -⟩ | ⟨h, -⟩ | ⟨h, -⟩ | ⟨-, -, h⟩ | ⟨h, -⟩ | ⟨h, -⟩)
      rotate_left 5
      · exact hg h
      all_goals (have h : (8 : Int) = _ := h; exact absurd h (by decide))
  · rw [pB_f hm, pB_f ?_]; rfl
    unfold pairP2
    rintro (⟨h, -⟩ | ⟨h, -⟩ | ⟨h, -⟩ | ⟨h, -⟩ | ⟨h, -⟩ | ⟨-, h, -⟩ | ⟨h, -⟩ | ⟨h, -⟩)
    rotate_left 5
    · exact hm h
    all_goals (have h : (8 : Int) = _ := h; exact absurd h (by decide))
theorem le2 {P : Program} {f : FuncId} {args as_ : List AV} {H : Heap} {Post : AV → Heap → Prop} (h : ACall P f as_ H Post) (hle : ALeL args as_) : ACall P f args H Post := ACall.le_args hle h
theorem c_rmeets (t : List Int) (n : Int) : PCall Tryz.prog 5 [.pv (encInts t), vint .i64 n] (fun a => a = vbool true) := by
  have h0 := c_light t
  by_cases ht : t.length ≤ 400
  · rw [decide_eq_true ht] at h0
    obtain ⟨x, y, j, l, h4, h5⟩ := dtime2 t sR.grid ht (by decide) (by decide)
    have h7 := c_mod n 8 (by omega)
    have hk : 0 ≤ modI n 8 ∧ modI n 8 ≤ 7 := by
      unfold modI; rw [if_neg (by omega)]; omega
    have h8 := c_rcheckR sR
    rw [regE_sR] at h8
    have h9 := c_rselC sR (.mk 1 (ByteArray.mk #[]) []) (.mk (by decide) (fun q hq => by cases hq)) fun h => ⟨(regO h).s, (regO h).feats⟩
    have e1 : clsE0 sR (.mk 1 (ByteArray.mk #[]) []) = 0 := by unfold clsE0; rw [if_pos regE_sR, selE_s.1]
    rw [e1] at h9
    refine rm_walk t n sR x y j l (pB (meetP x y)) (btw x y) (modI n 8) _ _ _ _ clsL_s hk h0 awake_rules c_sample h4 h5 (c_rbetween x y) h7 h8 (le2 h9 ⟨ALe.refl, hS, trivial⟩)
      (le2 (c_togS (.inl rfl) (by decide) (fun _ => rfl) ⟨x, 0⟩ ⟨y, 0⟩) ⟨ALe.refl, hU 1 0, ALe.refl, ALe.refl, ALe.refl, ALe.refl, trivial⟩)
      (le2 (c_togS (.inr (.inl rfl)) (by decide) (fun _ => rfl) ⟨x, 0⟩ ⟨y, 0⟩) ⟨ALe.refl, hU 3 0, ALe.refl, ALe.refl, ALe.refl, ALe.refl, trivial⟩)
      (le2 (c_togS (.inr (.inr rfl)) hk (fun h => absurd rfl h) ⟨x, 0⟩ ⟨y, 0⟩) ⟨ALe.refl, hU 8 (modI n 8), ALe.refl, ALe.refl, ALe.refl, ALe.refl, trivial⟩) ?_ ?_ ?_
    · rw [pair1]
    · rw [pair3]
    · rw [pair8]
  · have h1 := awake_rules
    rw [decide_eq_false ht] at h0
    refine acall_of tok mixed 123 rfl (fn := Tryz.f5) (c := Tryz.f5.body.getD .skip) (by kernel_rfl) (by kernel_rfl) (by kernel_rfl) rfl 0 rfl ?_
    repeat' (first | refine o1 ?_ | refine o2 ?_ | refine k1 ?_ | refine k2 ?_ | refine k3 ?_ | refine k7 ?_ | refine And.intro ?_ ?_ | (intro h; first | exact Bool.noConfusion h | exact nz _ h | exact nl h | (simp at h; done) | (simp at h; first | (exfalso; omega) | skip) | skip) | (change retOk _ _ _ _; refine ret_pure rfl trivial ?_) | (change vcFun _ _ _ _ _; refine call_eq rfl (by repeat' (first | trivial | refine And.intro ?_ ?_ | (show 0 + _ ≤ List.length _; simp))) ALeL.refl (h0) rfl ?_) | (change vcFun _ _ _ _ _; refine call_eq rfl (by repeat' (first | trivial | refine And.intro ?_ ?_ | (show 0 + _ ≤ List.length _; simp))) ALeL.refl (h1) rfl ?_) | fail)
    rfl
end Go.Proofs.YtmaambipopgdkaaGreat.Cw

/-
  What the law on rules that meet is handed.
-/
namespace Go.Proofs.YtmaambipopgdkaaGreat.Cw
open Go.Cw Go.Proofs
set_option linter.unusedVariables false
set_option maxRecDepth 100000

theorem in_int {qs : List PV} (h : PTy T 3 qs) : ∃ n : Int, qs = [ei n] := by
  obtain ⟨n, h, _⟩ := kd_int (by kernel_rfl) h
  exact ⟨n, h⟩
theorem in_ints {qs : List PV} (h : PTy T 24 qs) : ∃ l : List Int, qs = [encInts l] := by
  obtain ⟨l, h, _⟩ := kd_slice (fun s => [ei s]) (fun _ => True) (e := 3) (z := 1) (by kernel_rfl) (fun r hr => by obtain ⟨s, h⟩ := in_int hr; exact ⟨s, h, trivial⟩) h
  exact ⟨l, h⟩
theorem args_ints {ts : List TypeId} {al : List AV} (h : ArgsOk T (24 :: ts) al) : ∃ (l : List Int) (al' : _), al = .pv (encInts l) :: al' ∧ ArgsOk T ts al' := by
  obtain ⟨q, al', rfl, h1, h2⟩ := args_one (by kernel_rfl) h
  obtain ⟨l, h⟩ := in_ints h1
  injection h with h; subst h
  exact ⟨l, al', rfl, h2⟩
theorem args_int {ts : List TypeId} {al : List AV} (h : ArgsOk T (3 :: ts) al) : ∃ (n : Int) (al' : _), al = vint .i64 n :: al' ∧ ArgsOk T ts al' := by
  obtain ⟨q, al', rfl, h1, h2⟩ := args_one (by kernel_rfl) h
  obtain ⟨n, h⟩ := in_int h1
  injection h with h; subst h
  exact ⟨n, al', rfl, h2⟩
end Go.Proofs.YtmaambipopgdkaaGreat.Cw
