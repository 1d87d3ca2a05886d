/-
  Part 8 of the proof (AwakeV, RM4, RM1): what later parts use. No conditions.
-/
import Derived.Test.YtmaambipopgdkaaGreatMY7

/-
  Three classes at one time overlap three times: run.
-/
namespace Go.Proofs.YtmaambipopgdkaaGreat.Cw
open Go.Cw Go.Proofs
def aN : PV := .val (.slice none 0 0)
def aI (n : Int) : PV := .val (.int .i64 n)
def aS (l : List UInt8) : PV := .val (.string (ByteArray.mk (Array.mk l)))
def aK (x : UInt8) : List PV := [aS [99, x], aS [65], aS [80, x], aI 1, .sl 1 [[aI 15]], aI 0, .sl 1 [], .sl 1 [], .sl 2 []]
def aR : List PV := [aI 5, aI 10, aI 480, aI 45, aI 2, aI 4, .sl 1 [], .sl 5 [], .sl 1 [], .sl 1 [], .sl 2 [], .sl 9 [aK 49, aK 50, aK 51], .sl 2 [], .sl 4 []]
def aU : List PV := [aS [117], aI 0, aI 1, aI 1, aS [], aN, aI 0, aS [], aN, aI 0, aN, aN, aI 0]
def aP : List (List PV) := [[aI 15, aI 1, aI 2, aI 1, aI 0], [aI 15, aI 1, aI 2, aI 1, aI 0], [aI 15, aI 1, aI 2, aI 1, aI (-1)]]
theorem c_violA : PCall Tryz.prog 17 [.agg (pvs aR), .agg (pvs aU), .pv (.sl 5 aP)] (fun r => r = .tup [vint .i64 3, vint .i64 0]) := by
  have h : exFun T F 100000 20 17 [.agg (pvs aR), .agg (pvs aU), .pv (.sl 5 aP)] [] = some (.tup [vint .i64 3, vint .i64 0], []) := by kernel_rfl
  exact (exFun_ok tok fok mixed 100000 20 17 [.agg (pvs aR), .agg (pvs aU), .pv (.sl 5 aP)] [] _ _ h).mono fun r H' e => ⟨e.2, e.1⟩
end Go.Proofs.YtmaambipopgdkaaGreat.Cw

/-
  The example with which each law of chapter 16 begins: it answers true.
-/
namespace Go.Proofs.YtmaambipopgdkaaGreat.Cw
open Go.Cw Go.Proofs
set_option linter.unusedVariables false
set_option maxRecDepth 100000
set_option maxHeartbeats 8000000
theorem aR_eq : ag sR.cells = .agg (pvs aR) := rfl
theorem awake_rules : PCall Tryz.prog 16 [] (fun a => a = vbool true) := by
  have h1 := c_sample
  rw [aR_eq] at h1
  have h2 := c_violA
  refine acall_of tok mixed 27 rfl (fn := Tryz.f16) (c := Tryz.f16.body.getD .skip) (by kernel_rfl) (by kernel_rfl) (by kernel_rfl) rfl 0 rfl ?_
  repeat' (first | ((change vcFunD _ _ _ _ _; refine callD_eq rfl (by repeat' (first | trivial | refine And.intro ?_ ?_ | (show 0 + _ ≤ List.length _; simp))) ALeL.refl h1 rfl ?_)) | ((change vcFunD _ _ _ _ _; refine callD_eq rfl (by repeat' (first | trivial | refine And.intro ?_ ?_ | (show 0 + _ ≤ List.length _; simp))) ALeL.refl h2 rfl ?_)) | refine o1 ?_ | refine o2 ?_ | refine k1 ?_ | refine k2 ?_ | refine k7 ?_ | refine And.intro ?_ ?_ | refine o3 ?_ | refine o4 ?_ | (intro h; first | exact Bool.noConfusion h | exact nz _ h | exact nl h | (simp at h; done) | (simp at h; first | (exfalso; omega) | skip) | skip) | (change retOk _ _ _ _; refine ret_pure rfl trivial ?_) | exact (by kernel_rfl : drawOk _ _ = true) | fail)
  rfl
end Go.Proofs.YtmaambipopgdkaaGreat.Cw

/-
  Contracts: dice, sets of weeks and times by dice.
-/
namespace Go.Proofs.YtmaambipopgdkaaGreat.Cw
open Go.Cw Go.Proofs
set_option linter.unusedVariables false
set_option maxRecDepth 100000

def modI (a m : Int) : Int := if m < 1 then 0 else a % m

theorem tmod_mod {a m : Int} (h : 1 ≤ m) : (if a.tmod m < 0 then a.tmod m + m else a.tmod m) = a % m := by
  rw [Int.tmod_eq_emod]
  have h1 := Int.emod_nonneg a (show m ≠ 0 by omega)
  have h2 := Int.emod_lt_of_pos a (show 0 < m by omega)
  split
  · simp only [Int.ofNat_zero, Int.sub_zero]; rw [if_neg (by omega)]
  · rename_i h3
    have : (m.natAbs : Int) = m := by omega
    rw [this, if_pos (by omega)]; omega

theorem c_mod (a m : Int) (hm : m ≤ 9223372036854775807) : PCall Tryz.prog 26 [vint .i64 a, vint .i64 m] (fun r => r = vint .i64 (modI a m)) := by
  refine acall_of tok mixed 16 rfl (fn := Tryz.f26) (c := Tryz.f26.body.getD .skip) (by kernel_rfl) (by kernel_rfl) (by kernel_rfl) rfl 0 rfl ?_
  repeat' (first | refine o1 ?_ | refine o2 ?_ | refine k1 ?_ | refine k2 ?_ | refine k3 ?_ | refine k6 ?_ | refine k7 ?_ | refine And.intro ?_ ?_ | (intro h; first | exact Bool.noConfusion h | exact nz _ h | exact nl h | (simp at h; done) | (simp at h; first | (exfalso; omega) | skip) | skip) | (change retOk _ _ _ _; refine ret_pure rfl trivial ?_) | fail)
  case' refine_2.refine_2 =>
    have ht := tmod_mod (a := a) (m := m) (by omega)
    have h1 := Int.emod_nonneg a (show m ≠ 0 by omega)
    have h2 := Int.emod_lt_of_pos a (show 0 < m by omega)
    refine eqv_rfl ?_
    generalize a.tmod m = q at *
    have hq : q < 0 → q + m = a % m := fun h => by rw [if_pos h] at ht; exact ht
    repeat' (first | refine o1 ?_ | refine o2 ?_ | refine k1 ?_ | refine k2 ?_ | refine k3 ?_ | refine k6 ?_ | refine k7 ?_ | refine And.intro ?_ ?_ | (intro h; first | exact Bool.noConfusion h | exact nz _ h | exact nl h | (simp at h; done) | (simp at h; first | (exfalso; omega) | skip) | skip) | (change retOk _ _ _ _; refine ret_pure rfl trivial ?_) | refine eqv_wrap (by omega) (by omega) ?_ | fail)
  all_goals first
    | (exfalso; omega)
    | (refine congrArg (vint .i64) ?_; unfold modI; rw [if_neg (by omega)]; exact hq (by assumption))
    | (refine congrArg (vint .i64) ?_; unfold modI; rw [if_neg (by omega), ← ht, if_neg (by omega)])
    | (refine congrArg (vint .i64) ?_; unfold modI; rw [if_pos (by omega)])

def dice (t : List Int) (k : Nat) : Option AObj := some ⟨130, 2, false, .box [.pv (encInts t), vint .i64 k]⟩
def nextV (t : List Int) (k : Nat) (n : Int) : Int := match t[k]? with
  | some x => modI x n
  | none => 0
def nextK (t : List Int) (k : Nat) : Nat := if k < t.length then k + 1 else k

theorem nextV_range (t : List Int) (k : Nat) {n : Int} (h : 1 ≤ n) : 0 ≤ nextV t k n ∧ nextV t k n < n := by
  unfold nextV
  split
  · unfold modI; rw [if_neg (by omega)]; exact ⟨Int.emod_nonneg _ (by omega), Int.emod_lt_of_pos _ (by omega)⟩
  · omega

theorem c_next (t : List Int) (k : Nat) (n : Int) (ht : t.length ≤ 400) (hk : k ≤ t.length) (hn : n ≤ 9223372036854775807) :
    ACall Tryz.prog 63 [.ptr 0 2 0 0, vint .i64 n] [dice t k] (fun r H' => r = vint .i64 (nextV t k n) ∧ H' = [dice t (nextK t k)]) := by
  refine acall_of tok mixed 35 rfl (fn := Tryz.f63) (c := Tryz.f63.body.getD .skip) (by kernel_rfl) (by kernel_rfl) (by kernel_rfl) rfl 1 rfl ?_
  repeat' (first | refine o1 ?_ | refine o2 ?_ | refine k1 ?_ | refine k2 ?_ | refine k3 ?_ | refine k6 ?_ | refine k7 ?_ | refine And.intro ?_ ?_ | refine o3 ?_ | refine o4 ?_ | (intro h; first | exact Bool.noConfusion h | exact nz _ h | exact nl h | (simp at h; done) | (simp at h; first | (exfalso; omega) | skip) | skip) | exact (by kernel_rfl : drawOk _ _ = true) | refine eqv_len_map ?_ | refine eqv_wrap (by omega) (by omega) ?_ | fail)
  case' refine_1 =>
    refine ret_obj [0] [dice t (nextK t k)] rfl rfl ⟨(by rw [nextK, if_neg (by omega)]; rfl), trivial⟩ (r' := vint .i64 0) rfl ⟨?_, rfl⟩
    simp [nextV, List.getElem?_eq_none h]
  case' refine_2 =>
    obtain ⟨x, hx⟩ := getE h
    repeat' (first | refine o3 ?_ | refine idx_sl (at_map (by assumption)) (by omega) ?_ | fail)
    change vcFunD _ _ _ _ _
    refine callD_eq rfl (by repeat' (first | trivial)) ALeL.refl (c_mod x n hn) rfl ?_
    repeat' (first | refine k7 ?_ | refine And.intro ?_ ?_ | refine o3 ?_ | refine o4 ?_ | exact (by kernel_rfl : drawOk _ _ = true) | fail)
    refine ret_obj [0] [dice t (nextK t k)] rfl rfl ⟨(by rw [nextK, if_pos h]; rfl), trivial⟩ (r' := vint .i64 (modI x n)) rfl ⟨?_, rfl⟩
    simp [nextV, hx]

def Nxt (t : List Int) (k : Nat) (n v : Int) (k2 : Nat) : Prop := ACall Tryz.prog 63 [.ptr 0 2 0 0, vint .i64 n] [dice t k] (fun r H' => r = vint .i64 v ∧ H' = [dice t k2])
theorem nextK_le {t : List Int} {k : Nat} (h : k ≤ t.length) : nextK t k ≤ t.length := by unfold nextK; split <;> omega

theorem next_ex (t : List Int) (k : Nat) (n : Int) (ht : t.length ≤ 400) (hk : k ≤ t.length) (hn : n ≤ 9223372036854775807) (h1 : 1 ≤ n) :
    ∃ v k2, 0 ≤ v ∧ v < n ∧ k2 ≤ t.length ∧ Nxt t k n v k2 :=
  ⟨_, _, (nextV_range t k h1).1, (nextV_range t k h1).2, nextK_le hk, c_next t k n ht hk hn⟩

theorem c_roll (t : List Int) : ACall Tryz.prog 22 [.pv (encInts t)] [] (fun r H' => r = .ptr 0 2 0 0 ∧ H' = [dice t 0]) := by
  refine acall_of tok mixed 6 rfl (fn := Tryz.f22) (c := Tryz.f22.body.getD .skip) (by kernel_rfl) (by kernel_rfl) (by kernel_rfl) rfl 0 rfl ?_
  repeat' (first | refine o1 ?_ | refine o2 ?_ | refine k1 ?_ | refine k2 ?_ | refine k7 ?_ | fail)
  refine ret_obj [0] [dice t 0] rfl rfl ⟨rfl, trivial⟩ (r' := .ptr 0 2 0 0) rfl ⟨rfl, rfl⟩

theorem c_light (t : List Int) : PCall Tryz.prog 21 [.pv (encInts t)] (fun r => r = vbool (decide (t.length ≤ 400))) := by
  refine acall_of tok mixed 6 rfl (fn := Tryz.f21) (c := Tryz.f21.body.getD .skip) (by kernel_rfl) (by kernel_rfl) (by kernel_rfl) rfl 0 rfl ?_
  repeat' (first | refine o1 ?_ | refine o2 ?_ | refine k1 ?_ | refine k2 ?_ | refine k7 ?_ | (change retOk _ _ _ _; refine ret_pure rfl trivial ?_) | refine eqv_len_map ?_ | fail)
  refine congrArg vbool ?_
  simp; omega

theorem nextK_le2 {t : List Int} {k : Nat} (h : k ≤ t.length) : nextK t k ≤ t.length := nextK_le h
noncomputable def setV (t : List Int) (k : Nat) : Int := if nextV t k 4 = 0 then 15 else if nextV t k 4 = 1 then bits .and .i64 349525 15 else 1 + nextV t (nextK t k) 15
noncomputable def setK (t : List Int) (k : Nat) : Nat := if nextV t k 4 = 0 then nextK t k else if nextV t k 4 = 1 then nextK t k else nextK t (nextK t k)
theorem setK_le {t : List Int} {k : Nat} (h : k ≤ t.length) : setK t k ≤ t.length := by
  have h1 := nextK_le h
  have h2 := nextK_le h1
  unfold setK; (repeat' split) <;> omega
theorem c_set4 (t : List Int) (k : Nat) (ht : t.length ≤ 400) (hk : k ≤ t.length) :
    ACall Tryz.prog 62 [.ptr 0 2 0 0, vint .i64 4] [dice t k] (fun r H' => r = vint .i64 (setV t k) ∧ H' = [dice t (setK t k)]) := by
  have h1 := c_next t k 4 ht hk (by omega)
  have h2 := c_next t (nextK t k) 15 ht (nextK_le hk) (by omega)
  have hr := nextV_range t (nextK t k) (n := 15) (by omega)
  unfold setV setK
  generalize nextV t (nextK t k) 15 = v2 at *
  generalize nextK t (nextK t k) = j2 at *
  generalize nextV t k 4 = v1 at *
  generalize nextK t k = j1 at *
  refine acall_of tok mixed 27 rfl (fn := Tryz.f62) (c := Tryz.f62.body.getD .skip) (by kernel_rfl) (by kernel_rfl) (by kernel_rfl) rfl 1 rfl ?_
  repeat' (first | (refine eqv_shl (by omega) ?_) | ((change vcFun _ _ _ _ _; refine call_one (i := 0) rfl (fun _ _ => rfl) [.ptr 0 2 0 0, vint .i64 4] rfl h1 ?_; rintro r H' ⟨rfl, rfl⟩; refine ⟨_, rfl, fun _ _ => rfl, fun _ _ => rfl, ?_⟩)) | ((change vcFun _ _ _ _ _; refine call_one (i := 0) rfl (fun _ _ => rfl) [.ptr 0 2 0 0, vint .i64 15] rfl h2 ?_; rintro r H' ⟨rfl, rfl⟩; refine ⟨_, rfl, fun _ _ => rfl, fun _ _ => rfl, ?_⟩)) | refine o1 ?_ | refine o2 ?_ | refine k1 ?_ | refine k2 ?_ | refine k3 ?_ | refine k4 ?_ | refine k6 ?_ | refine k7 ?_ | refine And.intro ?_ ?_ | (intro h; first | exact Bool.noConfusion h | exact nz _ h | exact nl h | (simp at h; done) | (simp at h; first | (exfalso; omega) | skip) | skip) | (refine (?_ : (0 : Int) ≤ _); omega) | refine eqv_wrap (by omega) (by omega) ?_ | refine eqv_u64 (by omega) (by omega) ?_ | (refine eqv_rfl ?_) | fail)
  all_goals change retOk _ _ _ _
  · rw [if_pos (by assumption), if_pos (by assumption)]
    exact ret_obj [0] [dice t j1] rfl rfl ⟨rfl, trivial⟩ (r' := vint .i64 (IntKind.i64.wrap (2 ^ Int.toNat 4 - 1))) rfl ⟨congrArg (vint .i64) (by decide), rfl⟩
  · rw [if_neg (by assumption), if_pos (by assumption), if_neg (by assumption), if_pos (by assumption)]
    exact ret_obj [0] [dice t j1] rfl rfl ⟨rfl, trivial⟩ (r' := vint .i64 (bits .and .i64 349525 (IntKind.i64.wrap (2 ^ Int.toNat 4 - 1)))) rfl ⟨congrArg (vint .i64) (by rw [show IntKind.i64.wrap (2 ^ Int.toNat 4 - 1) = 15 by decide]), rfl⟩
  · rw [if_neg (by assumption), if_neg (by assumption), if_neg (by assumption), if_neg (by assumption)]
    exact ret_obj [0] [dice t j2] rfl rfl ⟨rfl, trivial⟩ (r' := vint .i64 (1 + v2)) rfl ⟨rfl, rfl⟩
/-- A time by dice. -/
noncomputable def dtimeV (t : List Int) (k : Nat) (g : Grid) : Time × Nat :=
  let j0 := setK t k
  let j1 := nextK t j0
  let j2 := nextK t j1
  (⟨setV t k, nextV t j0 g.days, nextV t j1 g.slots, 1 + nextV t j2 (g.slots - nextV t j1 g.slots)⟩, nextK t j2)
theorem dtime_le {t : List Int} {k : Nat} {g : Grid} (h : k ≤ t.length) : (dtimeV t k g).2 ≤ t.length := nextK_le (nextK_le (nextK_le (setK_le h)))
theorem c_dtime (t : List Int) (k : Nat) (g : Grid) (ht : t.length ≤ 400) (hk : k ≤ t.length) (hg : 1 ≤ g.slots ∧ g.slots ≤ 24) (hd : 1 ≤ g.days ∧ g.days ≤ 7) :
    ACall Tryz.prog 24 [.ptr 0 2 0 0, ag g.row, vint .i64 4] [dice t k] (fun r H' => r = ag (dtimeV t k g).1.row ∧ H' = [dice t (dtimeV t k g).2]) := by
  have h1 := c_set4 t k ht hk
  have k1 := setK_le (t := t) hk
  have h2 := c_next t (setK t k) g.days ht k1 (by omega)
  have h3 := c_next t (nextK t (setK t k)) g.slots ht (nextK_le k1) (by omega)
  have hr := nextV_range t (nextK t (setK t k)) (n := g.slots) hg.1
  have h4 := c_next t (nextK t (nextK t (setK t k))) (g.slots - nextV t (nextK t (setK t k)) g.slots) ht (nextK_le (nextK_le k1)) (by omega)
  have hr2 := nextV_range t (nextK t (nextK t (setK t k))) (n := g.slots - nextV t (nextK t (setK t k)) g.slots) (by omega)
  unfold dtimeV
  dsimp only
  clear k1
  generalize nextK t (nextK t (nextK t (setK t k))) = j3 at *
  generalize nextV t (nextK t (nextK t (setK t k))) (g.slots - nextV t (nextK t (setK t k)) g.slots) = v3 at *
  generalize nextV t (nextK t (setK t k)) g.slots = v2 at *
  generalize nextK t (nextK t (setK t k)) = j2 at *
  generalize nextV t (setK t k) g.days = v1 at *
  generalize nextK t (setK t k) = j1 at *
  generalize setV t k = v0 at *
  generalize setK t k = j0 at *
  refine acall_of tok mixed 30 rfl (fn := Tryz.f24) (c := Tryz.f24.body.getD .skip) (by kernel_rfl) (by kernel_rfl) (by kernel_rfl) rfl 1 rfl ?_
  repeat' (first | ((change vcFunD _ _ _ _ _; refine callD_one (i := 0) rfl (fun _ _ => rfl) [.ptr 0 2 0 0, vint .i64 4] rfl h1 (fun _ _ => rfl) (fun _ _ => rfl) ?_)) | ((change vcFunD _ _ _ _ _; refine callD_one (i := 0) rfl (fun _ _ => rfl) [.ptr 0 2 0 0, vint .i64 g.days] rfl h2 (fun _ _ => rfl) (fun _ _ => rfl) ?_)) | ((change vcFunD _ _ _ _ _; refine callD_one (i := 0) rfl (fun _ _ => rfl) [.ptr 0 2 0 0, vint .i64 g.slots] rfl h3 (fun _ _ => rfl) (fun _ _ => rfl) ?_)) | ((change vcFun _ _ _ _ _; refine call_one (i := 0) rfl (fun _ _ => rfl) [.ptr 0 2 0 0, vint .i64 (g.slots - v2)] rfl h4 ?_; rintro r H' ⟨rfl, rfl⟩; refine ⟨_, rfl, fun _ _ => rfl, fun _ _ => rfl, ?_⟩)) | refine o1 ?_ | refine o2 ?_ | refine k1 ?_ | refine k2 ?_ | refine k7 ?_ | refine And.intro ?_ ?_ | refine o3 ?_ | refine o4 ?_ | exact (by kernel_rfl : drawOk _ _ = true) | refine eqv_wrap (by omega) (by omega) ?_ | fail)
  change retOk _ _ _ _
  exact ret_obj [0] [dice t j3] rfl rfl ⟨rfl, trivial⟩ (r' := ag (Time.row ⟨v0, v1, v2, 1 + v3⟩)) rfl ⟨rfl, rfl⟩
end Go.Proofs.YtmaambipopgdkaaGreat.Cw
