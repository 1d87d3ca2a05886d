/-
  Part 7 of the proof (D1, D2, D4, YD, P10, P11, PL, P12, YW, L1, L2, L3, A1, A2, GT, FVB): what later parts use. No conditions.
-/
import Derived.Test.YtbcacaodfpgflaaDoorRows
import Derived.Lib.LaidTab
import Derived.Lib.TrailingZeros
import Derived.Stop.LaidErr
import Derived.MakeChecks
import Derived.Test.YtbcacaodfpgflaaDoorYV6

/-
  Contracts: dice.
-/
namespace Go.Proofs.YtbcacaodfpgflaaDoor.Cw
open Go.Cw Go.Proofs
set_option linter.unusedVariables false
set_option maxRecDepth 100000

def modI (a m : Int) : Int := if m < 1 then 0 else a % m

theorem tmod_mod {a m : Int} (h : 1 ≤ m) : (if a.tmod m < 0 then a.tmod m + m else a.tmod m) = a % m := by
  rw [Int.tmod_eq_emod]
  have h1 := Int.emod_nonneg a (show m ≠ 0 by omega)
  have h2 := Int.emod_lt_of_pos a (show 0 < m by omega)
  split
  · simp only [Int.ofNat_zero, Int.sub_zero]; rw [if_neg (by omega)]
  · rename_i h3
    have : (m.natAbs : Int) = m := by omega
    rw [this, if_pos (by omega)]; omega

theorem c_mod (a m : Int) (hm : m ≤ 9223372036854775807) : PCall Tryd.prog 22 [vint .i64 a, vint .i64 m] (fun r => r = vint .i64 (modI a m)) := by
  refine acall_of tok mixed 16 rfl (fn := Tryd.f22) (c := Tryd.f22.body.getD .skip) (by kernel_rfl) (by kernel_rfl) (by kernel_rfl) rfl 0 rfl ?_
  repeat' (first | refine o1 ?_ | refine o2 ?_ | refine k1 ?_ | refine k2 ?_ | refine k3 ?_ | refine k6 ?_ | refine k7 ?_ | refine And.intro ?_ ?_ | (intro h; first | exact Bool.noConfusion h | exact nz _ h | exact nl h | (simp at h; done) | (simp at h; first | (exfalso; omega) | skip) | skip) | (change retOk _ _ _ _; refine ret_pure rfl trivial ?_) | fail)
  case' refine_2.refine_2 =>
    have ht := tmod_mod (a := a) (m := m) (by omega)
    have h1 := Int.emod_nonneg a (show m ≠ 0 by omega)
    have h2 := Int.emod_lt_of_pos a (show 0 < m by omega)
    refine eqv_rfl ?_
    generalize a.tmod m = q at *
    have hq : q < 0 → q + m = a % m := fun h => by rw [if_pos h] at ht; exact ht
    repeat' (first | refine o1 ?_ | refine o2 ?_ | refine k1 ?_ | refine k2 ?_ | refine k3 ?_ | refine k6 ?_ | refine k7 ?_ | refine And.intro ?_ ?_ | (intro h; first | exact Bool.noConfusion h | exact nz _ h | exact nl h | (simp at h; done) | (simp at h; first | (exfalso; omega) | skip) | skip) | (change retOk _ _ _ _; refine ret_pure rfl trivial ?_) | refine eqv_wrap (by omega) (by omega) ?_ | fail)
  all_goals first
    | (exfalso; omega)
    | (refine congrArg (vint .i64) ?_; unfold modI; rw [if_neg (by omega)]; exact hq (by assumption))
    | (refine congrArg (vint .i64) ?_; unfold modI; rw [if_neg (by omega), ← ht, if_neg (by omega)])
    | (refine congrArg (vint .i64) ?_; unfold modI; rw [if_pos (by omega)])

def dice (t : List Int) (k : Nat) : Option AObj := some ⟨60, 2, false, .box [.pv (encInts t), vint .i64 k]⟩
def nextV (t : List Int) (k : Nat) (n : Int) : Int := match t[k]? with
  | some x => modI x n
  | none => 0
def nextK (t : List Int) (k : Nat) : Nat := if k < t.length then k + 1 else k

theorem nextV_range (t : List Int) (k : Nat) {n : Int} (h : 1 ≤ n) : 0 ≤ nextV t k n ∧ nextV t k n < n := by
  unfold nextV
  split
  · unfold modI; rw [if_neg (by omega)]; exact ⟨Int.emod_nonneg _ (by omega), Int.emod_lt_of_pos _ (by omega)⟩
  · omega

theorem c_next (t : List Int) (k : Nat) (n : Int) (ht : t.length ≤ 400) (hk : k ≤ t.length) (hn : n ≤ 9223372036854775807) :
    ACall Tryd.prog 44 [.ptr 0 2 0 0, vint .i64 n] [dice t k] (fun r H' => r = vint .i64 (nextV t k n) ∧ H' = [dice t (nextK t k)]) := by
  refine acall_of tok mixed 35 rfl (fn := Tryd.f44) (c := Tryd.f44.body.getD .skip) (by kernel_rfl) (by kernel_rfl) (by kernel_rfl) rfl 1 rfl ?_
  repeat' (first | refine o1 ?_ | refine o2 ?_ | refine k1 ?_ | refine k2 ?_ | refine k3 ?_ | refine k6 ?_ | refine k7 ?_ | refine And.intro ?_ ?_ | refine o3 ?_ | refine o4 ?_ | (intro h; first | exact Bool.noConfusion h | exact nz _ h | exact nl h | (simp at h; done) | (simp at h; first | (exfalso; omega) | skip) | skip) | exact (by kernel_rfl : drawOk _ _ = true) | refine eqv_len_map ?_ | refine eqv_wrap (by omega) (by omega) ?_ | fail)
  case' refine_1 =>
    refine ret_obj [0] [dice t (nextK t k)] rfl rfl ⟨(by rw [nextK, if_neg (by omega)]; rfl), trivial⟩ (r' := vint .i64 0) rfl ⟨?_, rfl⟩
    simp [nextV, List.getElem?_eq_none h]
  case' refine_2 =>
    obtain ⟨x, hx⟩ := getE h
    repeat' (first | refine o3 ?_ | refine idx_sl (at_map (by assumption)) (by omega) ?_ | fail)
    change vcFunD _ _ _ _ _
    refine callD_eq rfl (by repeat' (first | trivial)) ALeL.refl (c_mod x n hn) rfl ?_
    repeat' (first | refine k7 ?_ | refine And.intro ?_ ?_ | refine o3 ?_ | refine o4 ?_ | exact (by kernel_rfl : drawOk _ _ = true) | fail)
    refine ret_obj [0] [dice t (nextK t k)] rfl rfl ⟨(by rw [nextK, if_pos h]; rfl), trivial⟩ (r' := vint .i64 (modI x n)) rfl ⟨?_, rfl⟩
    simp [nextV, hx]

theorem c_one (t : List Int) (k : Nat) (n : Int) (ht : t.length ≤ 400) (hk : k ≤ t.length) (hn : n ≤ 9223372036854775807) (hn1 : 1 ≤ n) :
    ACall Tryd.prog 23 [.ptr 0 2 0 0, vint .i64 n] [dice t k] (fun r H' => r = vbool (decide (nextV t k n = n - 1)) ∧ H' = [dice t (nextK t k)]) := by
  refine acall_of tok mixed 11 rfl (fn := Tryd.f23) (c := Tryd.f23.body.getD .skip) (by kernel_rfl) (by kernel_rfl) (by kernel_rfl) rfl 1 rfl ?_
  repeat' (first | refine o1 ?_ | refine o2 ?_ | refine k1 ?_ | refine k2 ?_ | fail)
  change vcFun _ _ _ _ _
  refine call_obj [0] [dice t k] [.ptr 0 2 0 0, vint .i64 n] rfl ⟨rfl, trivial⟩ rfl (c_next t k n ht hk hn) ?_
  rintro r H' ⟨rfl, rfl⟩
  repeat' (first | refine o1 ?_ | refine o2 ?_ | refine k7 ?_ | refine And.intro ?_ ?_ | exact Nat.le_of_ble_eq_true rfl | refine eqv_wrap (by omega) (by omega) ?_ | fail)
  refine ret_obj [0] [dice t (nextK t k)] rfl rfl ⟨rfl, trivial⟩ (r' := vbool (decide (nextV t k n = n - 1))) rfl ⟨rfl, rfl⟩

def Nxt (t : List Int) (k : Nat) (n v : Int) (k2 : Nat) : Prop := ACall Tryd.prog 44 [.ptr 0 2 0 0, vint .i64 n] [dice t k] (fun r H' => r = vint .i64 v ∧ H' = [dice t k2])
theorem nextK_le {t : List Int} {k : Nat} (h : k ≤ t.length) : nextK t k ≤ t.length := by unfold nextK; split <;> omega

theorem next_ex (t : List Int) (k : Nat) (n : Int) (ht : t.length ≤ 400) (hk : k ≤ t.length) (hn : n ≤ 9223372036854775807) (h1 : 1 ≤ n) :
    ∃ v k2, 0 ≤ v ∧ v < n ∧ k2 ≤ t.length ∧ Nxt t k n v k2 :=
  ⟨_, _, (nextV_range t k h1).1, (nextV_range t k h1).2, nextK_le hk, c_next t k n ht hk hn⟩

def One (t : List Int) (k : Nat) (n : Int) (b : Bool) (k2 : Nat) : Prop := ACall Tryd.prog 23 [.ptr 0 2 0 0, vint .i64 n] [dice t k] (fun r H' => r = vbool b ∧ H' = [dice t k2])
theorem one_ex (t : List Int) (k : Nat) (n : Int) (ht : t.length ≤ 400) (hk : k ≤ t.length) (hn : n ≤ 9223372036854775807) (h1 : 1 ≤ n) :
    ∃ b k2, k2 ≤ t.length ∧ One t k n b k2 :=
  ⟨_, _, nextK_le hk, c_one t k n ht hk hn h1⟩
theorem c_roll (t : List Int) : ACall Tryd.prog 9 [.pv (encInts t)] [] (fun r H' => r = .ptr 0 2 0 0 ∧ H' = [dice t 0]) := by
  refine acall_of tok mixed 6 rfl (fn := Tryd.f9) (c := Tryd.f9.body.getD .skip) (by kernel_rfl) (by kernel_rfl) (by kernel_rfl) rfl 0 rfl ?_
  repeat' (first | refine o1 ?_ | refine o2 ?_ | refine k1 ?_ | refine k2 ?_ | refine k7 ?_ | fail)
  refine ret_obj [0] [dice t 0] rfl rfl ⟨rfl, trivial⟩ (r' := .ptr 0 2 0 0) rfl ⟨rfl, rfl⟩

theorem c_light (t : List Int) : PCall Tryd.prog 6 [.pv (encInts t)] (fun r => r = vbool (decide (t.length ≤ 400))) := by
  refine acall_of tok mixed 6 rfl (fn := Tryd.f6) (c := Tryd.f6.body.getD .skip) (by kernel_rfl) (by kernel_rfl) (by kernel_rfl) rfl 0 rfl ?_
  repeat' (first | refine o1 ?_ | refine o2 ?_ | refine k1 ?_ | refine k2 ?_ | refine k7 ?_ | (change retOk _ _ _ _; refine ret_pure rfl trivial ?_) | refine eqv_len_map ?_ | fail)
  refine congrArg vbool ?_
  simp; omega

end Go.Proofs.YtbcacaodfpgflaaDoor.Cw

/-
  Dice: calls in walks.
-/
namespace Go.Proofs.YtbcacaodfpgflaaDoor.Cw
open Go.Cw Go.Proofs
set_option linter.unusedVariables false
set_option maxRecDepth 100000

section
variable {t : List Int} {k : Nat} {n : Int} {H : Heap} (i : Nat)
theorem call_next {K : AV → Heap → Prop} (hi : H[i]? = some (dice t k)) (ht : t.length ≤ 400) (hk : k ≤ t.length) (h1 : 1 ≤ n) (hn : n ≤ 9223372036854775807)
    (hK : ∀ v k2, 0 ≤ v → v < n → k2 ≤ t.length → K (vint .i64 v) (H.set i (dice t k2))) : vcFun Tryd.prog 44 [.ptr i 2 0 0, vint .i64 n] H K := by
  obtain ⟨v, k2, a, b, c, hn⟩ := next_ex t k n ht hk hn h1
  refine call_one (i := i) hi (fun _ _ => rfl) [.ptr 0 2 0 0, vint .i64 n] rfl hn ?_
  rintro r H' ⟨rfl, rfl⟩
  exact ⟨_, rfl, fun _ _ => rfl, fun _ _ => rfl, hK v k2 a b c⟩
theorem call_one2 {K : AV → Heap → Prop} (hi : H[i]? = some (dice t k)) (ht : t.length ≤ 400) (hk : k ≤ t.length) (h1 : 1 ≤ n) (hn : n ≤ 9223372036854775807)
    (hK : ∀ b k2, k2 ≤ t.length → K (vbool b) (H.set i (dice t k2))) : vcFun Tryd.prog 23 [.ptr i 2 0 0, vint .i64 n] H K := by
  obtain ⟨v, k2, c, hn⟩ := one_ex t k n ht hk hn h1
  refine call_one (i := i) hi (fun _ _ => rfl) [.ptr 0 2 0 0, vint .i64 n] rfl hn ?_
  rintro r H' ⟨rfl, rfl⟩
  exact ⟨_, rfl, fun _ _ => rfl, fun _ _ => rfl, hK v k2 c⟩
theorem callD_next {K : AV → Upd → List Nat → Prop} (hi : H[i]? = some (dice t k)) (ht : t.length ≤ 400) (hk : k ≤ t.length) (h1 : 1 ≤ n) (hn : n ≤ 9223372036854775807)
    (hK : ∀ v k2, 0 ≤ v → v < n → k2 ≤ t.length → K (vint .i64 v) [(i, dice t k2)] [i]) : vcFunD Tryd.prog 44 [.ptr i 2 0 0, vint .i64 n] H K := by
  obtain ⟨v, k2, a, b, c, hn⟩ := next_ex t k n ht hk hn h1
  exact callD_one (i := i) hi (fun _ _ => rfl) [.ptr 0 2 0 0, vint .i64 n] rfl hn (fun _ _ => rfl) (fun _ _ => rfl) (hK v k2 a b c)
theorem callD_one2 {K : AV → Upd → List Nat → Prop} (hi : H[i]? = some (dice t k)) (ht : t.length ≤ 400) (hk : k ≤ t.length) (h1 : 1 ≤ n) (hn : n ≤ 9223372036854775807)
    (hK : ∀ b k2, k2 ≤ t.length → K (vbool b) [(i, dice t k2)] [i]) : vcFunD Tryd.prog 23 [.ptr i 2 0 0, vint .i64 n] H K := by
  obtain ⟨v, k2, c, hn⟩ := one_ex t k n ht hk hn h1
  exact callD_one (i := i) hi (fun _ _ => rfl) [.ptr 0 2 0 0, vint .i64 n] rfl hn (fun _ _ => rfl) (fun _ _ => rfl) (hK v k2 c)
end

theorem bytes_one {v : Int} {n m : Nat} {K : Str → Prop} (h1 : 0 ≤ v) (h2 : v < 256) (hn : n = m) (h : ∀ s, s.size = 1 → K s) : ∃ b, List.take 1 (List.drop 0 [[PV.val (.int .u8 v)]]) = bytesRows b ∧ n = m ∧ K b := by
  refine ⟨⟨#[v.toNat.toUInt8]⟩, ?_, hn, h _ rfl⟩
  have : ((v.toNat.toUInt8.toNat : Nat) : Int) = v := by
    have : v.toNat.toUInt8.toNat = v.toNat := by simp [Nat.toUInt8]; omega
    omega
  show [[PV.val (.int .u8 v)]] = [[.val (.int .u8 ((v.toNat.toUInt8.toNat : Nat) : Int))]]
  rw [this]
end Go.Proofs.YtbcacaodfpgflaaDoor.Cw

/-
  Odd times, odd rooms, odd examinations.
-/
namespace Go.Proofs.YtbcacaodfpgflaaDoor.Cw
open Go.Cw Go.Proofs
set_option linter.unusedVariables false
set_option maxRecDepth 100000
set_option maxHeartbeats 1600000

/-- An index by a number of dice into a list that is written out. -/
theorem lit_idx {v : Int} {n : Nat} {K : Nat → Prop} (h1 : 0 ≤ v) (h2 : v < n) (h : ∀ k, k < n → K (0 + k)) : ∃ k : Nat, v = ↑k ∧ k < n ∧ eqv (0 + k) K :=
  ⟨v.toNat, by omega, by omega, _, rfl, h _ (by omega)⟩
def intRows : List (List PV) → Bool
  | [] => true
  | [.val (.int .i64 _)] :: l => intRows l
  | _ => false
theorem lit_ex : ∀ {L : List (List PV)} {k : Nat}, intRows L = true → k < L.length → ∃ x, L[k]? = some [ei x]
  | [], k, _, h => by simp at h
  | r :: l, 0, h, _ => by
    unfold intRows at h
    split at h
    · rename_i heq; cases heq
    · rename_i heq; cases heq; exact ⟨_, rfl⟩
    · cases h
  | r :: l, k + 1, h, hk => by
    unfold intRows at h
    split at h
    · rename_i heq; cases heq
    · rename_i heq; cases heq
      obtain ⟨x, hx⟩ := lit_ex (L := l) (k := k) h (by simpa using hk)
      exact ⟨x, by simpa using hx⟩
    · cases h
theorem lit_load {L : List (List PV)} {k n : Nat} {C : List PV → Prop} (hn : n = L.length) (hk : k < n) (hL : intRows L = true) (h : ∀ x : Int, C [ei x]) : ∃ r, L[0 + k]? = some r ∧ C r := by
  obtain ⟨x, hx⟩ := lit_ex hL (by omega : k < L.length)
  exact ⟨_, by rw [Nat.zero_add]; exact hx, h x⟩

/-- A pure result, as_ it is, and objects. -/
theorem ret_same {k : Nat} {r : AV} {H : Heap} {Post : AV → Heap → Prop} (rn : List Nat) (H' : Heap) (hd : allD rn = true) (ht : rn.take k = tabl 0 k) (hk : kept H H.length rn rn H') (hr : renC H.length rn r = r) (h : Post r H') : retOk k r H Post :=
  ret_obj rn H' hd ht hk hr.symm h

theorem c_oddtime (t : List Int) (k : Nat) (ht : t.length ≤ 400) (hk : k ≤ t.length) (x : Time) :
    ACall Tryd.prog 46 [.ptr 0 2 0 0, ag x.row] [dice t k] (fun r H' => ∃ (y : Time) (k' : Nat), k' ≤ t.length ∧ r = ag y.row ∧ H' = [dice t k']) := by
  refine acall_of tok mixed 38 rfl (fn := Tryd.f46) (c := Tryd.f46.body.getD .skip) (by kernel_rfl) (by kernel_rfl) (by kernel_rfl) rfl 1 rfl ?_
  repeat' (first | (refine lit_idx (by assumption) (by assumption) (fun kx hkx => ?_)) | (refine lit_load rfl (by assumption) rfl (fun y => ?_)) | refine o1 ?_ | refine o2 ?_ | refine k1 ?_ | refine k2 ?_ | refine k3 ?_ | refine k4 ?_ | refine k6 ?_ | refine k7 ?_ | refine k8 ?_ | refine And.intro ?_ ?_ | exact trivial | refine o3 ?_ | refine o4 ?_ | refine o5 ?_ | refine o6 ?_ | refine k5 ?_ | (intro h; first | exact Bool.noConfusion h | exact nz _ h | exact nl h | (simp at h; done) | (simp at h; first | (exfalso; omega) | skip) | skip) | (change retOk _ _ _ _; refine ret_pure rfl trivial ?_) | exact (rfl : allOne _ = true) | (refine (?_ : (0 : Int) ≤ _); omega) | (refine (?_ : _ ≠ _); omega) | (refine (?_ : srcLen _ = rowsLen _); rfl) | exact Nat.le_of_ble_eq_true rfl | exact (by kernel_rfl : drawOk _ _ = true) | refine eqv_len_map ?_ | refine eqv_size ?_ | refine eqv_put (eqv_ck ?_) | refine eqv_zero ?_ | refine eqv_wrap (by omega) (by omega) ?_ | refine eqv_u64 (by omega) (by omega) ?_ | refine eqv_u8 (by omega) (by omega) ?_ | refine eqv_to _ (set_map rfl rfl) ?_ | refine ⟨_, _, (by first | rfl | assumption), at_map (by assumption), ?_⟩ | refine ⟨_, _, (by first | rfl | assumption), (by assumption), ?_⟩ | refine ⟨_, at_map (by assumption), (by decide), ?_⟩ | refine ⟨_, at_map (by assumption), ?_⟩ | (refine (?_ : _ ≤ 140737488355328); simp [rowsLen] <;> omega) | (refine (?_ : _ ≤ 9223372036854775807); simp [rowsLen] <;> omega) | (refine (?_ : _ = rowsLen _); simp [rowsLen] <;> omega) | refine eqv_to _ (app_row rfl) (eqv_to _ app_len ?_) | refine eqv_to _ (app_first rfl) (eqv_to 1 rfl ?_) | refine idx_sl (at_map (by assumption)) (by omega) ?_ | refine idx_ms _ (by first | rfl | assumption) (by first | assumption | omega) ?_ | (change vcFun _ _ _ _ _; refine call_next 0 rfl (by assumption) (by assumption) (by omega) (by omega) ?_; intro v kq hv1 hv2 hkq) | (change vcFun _ _ _ _ _; refine call_one2 0 rfl (by assumption) (by assumption) (by omega) (by omega) ?_; intro bq kq hkq) | (change vcFunD _ _ _ _ _; refine callD_next 0 rfl (by assumption) (by assumption) (by omega) (by omega) ?_; intro v kq hv1 hv2 hkq) | (change vcFunD _ _ _ _ _; refine callD_one2 0 rfl (by assumption) (by assumption) (by omega) (by omega) ?_; intro bq kq hkq) | fail)
  all_goals first
    | exact ret_same [0] [dice t kq] rfl rfl ⟨rfl, trivial⟩ rfl ⟨⟨y, x.day, x.start, x.len⟩, kq, hkq, rfl, rfl⟩
    | exact ret_same [0] [dice t kq] rfl rfl ⟨rfl, trivial⟩ rfl ⟨⟨x.weeks, y, x.start, x.len⟩, kq, hkq, rfl, rfl⟩
    | exact ret_same [0] [dice t kq] rfl rfl ⟨rfl, trivial⟩ rfl ⟨⟨x.weeks, x.day, y, x.len⟩, kq, hkq, rfl, rfl⟩
    | exact ret_same [0] [dice t kq] rfl rfl ⟨rfl, trivial⟩ rfl ⟨⟨x.weeks, x.day, x.start, y⟩, kq, hkq, rfl, rfl⟩
end Go.Proofs.YtbcacaodfpgflaaDoor.Cw

/-
  Words for walks over dice: written-out lists of texts; a changed time.
-/
namespace Go.Proofs.YtbcacaodfpgflaaDoor.Cw
open Go Go.Cw Go.Proofs
set_option linter.unusedVariables false
set_option maxRecDepth 100000

def strRows : List (List PV) → Bool
  | [] => true
  | [.val (.string _)] :: l => strRows l
  | _ => false
theorem lits_ex : ∀ {L : List (List PV)} {k : Nat}, strRows L = true → k < L.length → ∃ x, L[k]? = some [es x]
  | [], k, _, h => by simp at h
  | r :: l, 0, h, _ => by
    unfold strRows at h
    split at h
    · rename_i heq; cases heq
    · rename_i heq; cases heq; exact ⟨_, rfl⟩
    · cases h
  | r :: l, k + 1, h, hk => by
    unfold strRows at h
    split at h
    · rename_i heq; cases heq
    · rename_i heq; cases heq
      obtain ⟨x, hx⟩ := lits_ex (L := l) (k := k) h (by simpa using hk)
      exact ⟨x, by simpa using hx⟩
    · cases h
theorem lits_load {L : List (List PV)} {k n : Nat} {C : List PV → Prop} (hn : n = L.length) (hk : k < n) (hL : strRows L = true) (h : ∀ x : Str, C [es x]) : ∃ r, L[0 + k]? = some r ∧ C r := by
  obtain ⟨x, hx⟩ := lits_ex hL (by omega : k < L.length)
  exact ⟨_, by rw [Nat.zero_add]; exact hx, h x⟩
theorem call_oddtime {t : List Int} {k : Nat} {H : Heap} {K : AV → Heap → Prop} (i : Nat) (x : Time) (hi : H[i]? = some (dice t k)) (ht : t.length ≤ 400) (hk : k ≤ t.length)
    (hK : ∀ y k2, k2 ≤ t.length → K (ag (Time.row y)) (H.set i (dice t k2))) : vcFun Tryd.prog 46 [.ptr i 2 0 0, ag x.row] H K := by
  refine call_one (i := i) hi (fun _ _ => rfl) [.ptr 0 2 0 0, ag x.row] rfl (c_oddtime t k ht hk x) ?_
  rintro r H' ⟨y, k', h1, rfl, rfl⟩
  exact ⟨_, rfl, fun _ _ => rfl, fun _ _ => rfl, hK y k' h1⟩
end Go.Proofs.YtbcacaodfpgflaaDoor.Cw

/-
  Contracts: lists of sessions by dice.
-/
namespace Go.Proofs.YtbcacaodfpgflaaDoor.Cw
open Go Go.Cw Go.Proofs
set_option linter.unusedVariables false
set_option maxRecDepth 100000
set_option maxHeartbeats 8000000

theorem ret_slD {k id z ty : Nat} {rows : List (List PV)} {H : Heap} {Post : AV → Heap → Prop} (rn : List Nat) (H' : Heap) (hd : allD rn = true) (ht : rn.take k = tabl 0 k) (hk : kept H H.length rn rn H') (ho : H[id]? = some (obP ty z rows)) (hn : rn.all (fun y => !Nat.beq id y) = true)
    (h : ∀ r, ALe r (.pv (.sl z rows)) → Post r H') : retOk k (slP id z rows) H Post := by
  obtain ⟨r0, h1, h2, h3⟩ := conv_sl ho
  refine ret_conv rn H' hd ht hk h1 h2 ?_ (h r0 h3)
  cases rows with
  | nil => rfl
  | cons a l =>
    have e : ids1 H (slP id z (a :: l)) = [id] := by
      show idsC H 5 (.ms id z 0 _) = _
      simp only [idsC, ho, obP]
      rfl
    rw [e]
    simpa [disj] using hn
theorem c_weeksD (t : List Int) (k : Nat) (ht : t.length ≤ 400) (hk : k ≤ t.length) :
    ACall Tryd.prog 20 [.ptr 0 2 0 0] [dice t k] (fun r H' => ∃ (w : Int) (k' : Nat), k' ≤ t.length ∧ r = vint .i64 w ∧ H' = [dice t k']) := by
  refine acall_of tok mixed 13 rfl (fn := Tryd.f20) (c := Tryd.f20.body.getD .skip) (by kernel_rfl) (by kernel_rfl) (by kernel_rfl) rfl 1 rfl ?_
  repeat' (first | (refine lit_idx (by assumption) (by assumption) (fun kx hkx => ?_)) | (refine lit_load rfl (by assumption) rfl (fun y => ?_)) | refine o1 ?_ | refine o2 ?_ | refine k1 ?_ | refine k2 ?_ | refine k3 ?_ | refine k4 ?_ | refine k6 ?_ | refine k7 ?_ | refine k8 ?_ | refine And.intro ?_ ?_ | exact trivial | refine o3 ?_ | refine o4 ?_ | refine o5 ?_ | refine o6 ?_ | refine k5 ?_ | (intro h; first | exact Bool.noConfusion h | exact nz _ h | exact nl h | (simp at h; done) | (simp at h; first | (exfalso; omega) | skip) | skip) | (change retOk _ _ _ _; refine ret_pure rfl trivial ?_) | exact (rfl : allOne _ = true) | (refine (?_ : (0 : Int) ≤ _); omega) | (refine (?_ : _ ≠ _); omega) | (refine (?_ : srcLen _ = rowsLen _); rfl) | exact Nat.le_of_ble_eq_true rfl | exact (by kernel_rfl : drawOk _ _ = true) | refine eqv_len_map ?_ | refine eqv_size ?_ | refine eqv_put (eqv_ck ?_) | refine eqv_zero ?_ | refine eqv_wrap (by omega) (by omega) ?_ | refine eqv_u64 (by omega) (by omega) ?_ | refine eqv_u8 (by omega) (by omega) ?_ | refine eqv_to _ (set_map rfl rfl) ?_ | refine ⟨_, _, (by first | rfl | assumption), at_map (by assumption), ?_⟩ | refine ⟨_, _, (by first | rfl | assumption), (by assumption), ?_⟩ | refine ⟨_, at_map (by assumption), (by decide), ?_⟩ | refine ⟨_, at_map (by assumption), ?_⟩ | (refine (?_ : _ ≤ 140737488355328); simp [rowsLen] <;> omega) | (refine (?_ : _ ≤ 9223372036854775807); simp [rowsLen] <;> omega) | (refine (?_ : _ = rowsLen _); simp [rowsLen] <;> omega) | refine eqv_to _ (app_row rfl) (eqv_to _ app_len ?_) | refine eqv_to _ (app_first rfl) (eqv_to 1 rfl ?_) | refine idx_sl (at_map (by assumption)) (by omega) ?_ | refine idx_ms _ (by first | rfl | assumption) (by first | assumption | omega) ?_ | (change vcFun _ _ _ _ _; refine call_next 0 rfl (by assumption) (by assumption) (by omega) (by omega) ?_; intro v kq hv1 hv2 hkq) | (change vcFun _ _ _ _ _; refine call_one2 0 rfl (by assumption) (by assumption) (by omega) (by omega) ?_; intro bq kq hkq) | (change vcFunD _ _ _ _ _; refine callD_next 0 rfl (by assumption) (by assumption) (by omega) (by omega) ?_; intro v kq hv1 hv2 hkq) | (change vcFunD _ _ _ _ _; refine callD_one2 0 rfl (by assumption) (by assumption) (by omega) (by omega) ?_; intro bq kq hkq) | fail)
  all_goals first
    | (exfalso; omega)
    | exact ret_same [0] [dice t _] rfl rfl ⟨rfl, trivial⟩ rfl ⟨_, _, by assumption, rfl, rfl⟩
theorem shl_wrap {n : Int} (h : 1 ≤ n ∧ n ≤ 20) : IntKind.i64.wrap (2 ^ n.toNat - 1) = 2 ^ n.toNat - 1 := by
  have h1 := pow2_pos n.toNat
  have h2 := pow2_le (n := n.toNat) (by omega)
  exact wrap64 (by omega) (by omega)
theorem pow_two {n : Int} (h : 1 ≤ n ∧ n ≤ 20) : 2 ≤ (2 : Int) ^ n.toNat ∧ (2 : Int) ^ n.toNat ≤ 1099511627776 := by
  refine ⟨?_, pow2_le (by omega)⟩
  obtain ⟨m, hm⟩ : ∃ m, n.toNat = m + 1 := ⟨n.toNat - 1, by omega⟩
  rw [hm, Int.pow_succ]
  have := pow2_pos m
  omega
theorem shl_val {n : Int} (h : 1 ≤ n ∧ n ≤ 20) : IntKind.i64.wrap (1 * 2 ^ (min n.toNat IntKind.i64.bits)) = 2 ^ n.toNat := by
  obtain ⟨b, h1, h2⟩ := eqv_shl (n := n) (K := fun b => b = 2 ^ n.toNat) (by omega) rfl
  rw [h1, h2]
theorem c_set20 (t : List Int) (k : Nat) (ht : t.length ≤ 400) (hk : k ≤ t.length) (n : Int) (hn : 1 ≤ n ∧ n ≤ 20) :
    ACall Tryd.prog 45 [.ptr 0 2 0 0, vint .i64 n] [dice t k] (fun r H' => ∃ (w : Int) (k' : Nat), k' ≤ t.length ∧ r = vint .i64 w ∧ H' = [dice t k']) := by
  have e0 := shl_val hn
  have e1 := shl_wrap hn
  obtain ⟨q1, q2⟩ := pow_two hn
  generalize (2 : Int) ^ n.toNat = Q at *
  refine acall_of tok mixed 27 rfl (fn := Tryd.f45) (c := Tryd.f45.body.getD .skip) (by kernel_rfl) (by kernel_rfl) (by kernel_rfl) rfl 1 rfl ?_
  repeat' (first | (refine eqv_u64 (by omega) (by omega) ?_) | (refine eqv_to _ e0 ?_) | (refine eqv_to _ e1 ?_) | (refine (eqv_rfl ?_ : eqv (bits _ _ _ _) _)) | refine o1 ?_ | refine o2 ?_ | refine k1 ?_ | refine k2 ?_ | refine k3 ?_ | refine k4 ?_ | refine k6 ?_ | refine k7 ?_ | refine k8 ?_ | refine And.intro ?_ ?_ | exact trivial | refine o3 ?_ | refine o4 ?_ | refine o5 ?_ | refine o6 ?_ | refine k5 ?_ | (intro h; first | exact Bool.noConfusion h | exact nz _ h | exact nl h | (simp at h; done) | (simp at h; first | (exfalso; omega) | skip) | skip) | (change retOk _ _ _ _; refine ret_pure rfl trivial ?_) | exact (rfl : allOne _ = true) | (refine (?_ : (0 : Int) ≤ _); omega) | (refine (?_ : _ ≠ _); omega) | (refine (?_ : srcLen _ = rowsLen _); rfl) | exact Nat.le_of_ble_eq_true rfl | exact (by kernel_rfl : drawOk _ _ = true) | refine eqv_len_map ?_ | refine eqv_size ?_ | refine eqv_put (eqv_ck ?_) | refine eqv_zero ?_ | refine eqv_wrap (by omega) (by omega) ?_ | refine eqv_u64 (by omega) (by omega) ?_ | refine eqv_u8 (by omega) (by omega) ?_ | refine eqv_to _ (set_map rfl rfl) ?_ | refine ⟨_, _, (by first | rfl | assumption), at_map (by assumption), ?_⟩ | refine ⟨_, _, (by first | rfl | assumption), (by assumption), ?_⟩ | refine ⟨_, at_map (by assumption), (by decide), ?_⟩ | refine ⟨_, at_map (by assumption), ?_⟩ | (refine (?_ : _ ≤ 140737488355328); simp [rowsLen] <;> omega) | (refine (?_ : _ ≤ 9223372036854775807); simp [rowsLen] <;> omega) | (refine (?_ : _ = rowsLen _); simp [rowsLen] <;> omega) | refine eqv_to _ (app_row rfl) (eqv_to _ app_len ?_) | refine eqv_to _ (app_first rfl) (eqv_to 1 rfl ?_) | refine idx_sl (at_map (by assumption)) (by omega) ?_ | refine idx_ms _ (by first | rfl | assumption) (by first | assumption | omega) ?_ | (change vcFun _ _ _ _ _; refine call_next 0 rfl (by assumption) (by assumption) (by omega) (by omega) ?_; intro v kq hv1 hv2 hkq) | (change vcFun _ _ _ _ _; refine call_one2 0 rfl (by assumption) (by assumption) (by omega) (by omega) ?_; intro bq kq hkq) | (change vcFunD _ _ _ _ _; refine callD_next 0 rfl (by assumption) (by assumption) (by omega) (by omega) ?_; intro v kq hv1 hv2 hkq) | (change vcFunD _ _ _ _ _; refine callD_one2 0 rfl (by assumption) (by assumption) (by omega) (by omega) ?_; intro bq kq hkq) | fail)
  all_goals first
    | (exfalso; omega)
    | exact ret_same [0] [dice t _] rfl rfl ⟨rfl, trivial⟩ rfl ⟨_, _, by assumption, rfl, rfl⟩
theorem call_set {t : List Int} {k : Nat} {H : Heap} {K : AV → Heap → Prop} (i : Nat) {n : Int} (hn : 1 ≤ n ∧ n ≤ 20) (hi : H[i]? = some (dice t k)) (ht : t.length ≤ 400) (hk : k ≤ t.length)
    (hK : ∀ w k2, k2 ≤ t.length → K (vint .i64 w) (H.set i (dice t k2))) : vcFun Tryd.prog 45 [.ptr i 2 0 0, vint .i64 n] H K := by
  refine call_one (i := i) hi (fun _ _ => rfl) [.ptr 0 2 0 0, vint .i64 n] rfl (c_set20 t k ht hk n hn) ?_
  rintro r H' ⟨y, k', h1, rfl, rfl⟩
  exact ⟨_, rfl, fun _ _ => rfl, fun _ _ => rfl, hK y k' h1⟩
theorem rows_sess : ∀ {rs : List (List PV)}, (∀ q ∈ rs, ∃ s : Sess, q = s.row) → ∃ l : List Sess, rs = l.map Sess.row
  | [], _ => ⟨[], rfl⟩
  | q :: rs, h => by
    obtain ⟨s, rfl⟩ := h q (by simp)
    obtain ⟨l, rfl⟩ := rows_sess (rs := rs) fun q hq => h q (by simp [hq])
    exact ⟨s :: l, rfl⟩
theorem c_seq (t : List Int) (k : Nat) (ht : t.length ≤ 400) (hk : k ≤ t.length) (n : Int) (hn : 1 ≤ n ∧ n ≤ 20) :
    ACall Tryd.prog 21 [.ptr 0 2 0 0, vint .i64 n] [dice t k] (fun r H' => ∃ (l : List Sess) (k' : Nat), l.length ≤ 100 ∧ k' ≤ t.length ∧ ALe r (.pv (encSess l)) ∧ H' = [dice t k']) := by
  have e0 := shl_val hn
  have e1 := shl_wrap hn
  generalize (2 : Int) ^ n.toNat = Q at *
  refine acall_of tok mixed 80 rfl (fn := Tryd.f21) (c := Tryd.f21.body.getD .skip) (by kernel_rfl) (by kernel_rfl) (by kernel_rfl) rfl 1 rfl ?_
  repeat' (first | refine o1 ?_ | refine o2 ?_ | refine k1 ?_ | refine k2 ?_ | refine k3 ?_ | refine k4 ?_ | refine k6 ?_ | refine k7 ?_ | refine k8 ?_ | refine And.intro ?_ ?_ | exact trivial | refine o3 ?_ | refine o4 ?_ | refine o5 ?_ | refine o6 ?_ | refine k5 ?_ | (intro h; first | exact Bool.noConfusion h | exact nz _ h | exact nl h | (simp at h; done) | (simp at h; first | (exfalso; omega) | skip) | skip) | (change retOk _ _ _ _; refine ret_pure rfl trivial ?_) | exact (rfl : allOne _ = true) | (refine (?_ : (0 : Int) ≤ _); omega) | (refine (?_ : _ ≠ _); omega) | (refine (?_ : srcLen _ = rowsLen _); rfl) | exact Nat.le_of_ble_eq_true rfl | exact (by kernel_rfl : drawOk _ _ = true) | refine eqv_len_map ?_ | refine eqv_size ?_ | refine eqv_put (eqv_ck ?_) | refine eqv_zero ?_ | refine eqv_wrap (by omega) (by omega) ?_ | refine eqv_u64 (by omega) (by omega) ?_ | refine eqv_u8 (by omega) (by omega) ?_ | refine eqv_to _ (set_map rfl rfl) ?_ | refine ⟨_, _, (by first | rfl | assumption), at_map (by assumption), ?_⟩ | refine ⟨_, _, (by first | rfl | assumption), (by assumption), ?_⟩ | refine ⟨_, at_map (by assumption), (by decide), ?_⟩ | refine ⟨_, at_map (by assumption), ?_⟩ | (refine (?_ : _ ≤ 140737488355328); simp [rowsLen] <;> omega) | (refine (?_ : _ ≤ 9223372036854775807); simp [rowsLen] <;> omega) | (refine (?_ : _ = rowsLen _); simp [rowsLen] <;> omega) | refine eqv_to _ (app_row rfl) (eqv_to _ app_len ?_) | refine eqv_to _ (app_first rfl) (eqv_to 1 rfl ?_) | refine idx_sl (at_map (by assumption)) (by omega) ?_ | refine idx_ms _ (by first | rfl | assumption) (by first | assumption | omega) ?_ | (change vcFun _ _ _ _ _; refine call_next 0 rfl (by assumption) (by assumption) (by omega) (by omega) ?_; intro v kq hv1 hv2 hkq) | (change vcFun _ _ _ _ _; refine call_one2 0 rfl (by assumption) (by assumption) (by omega) (by omega) ?_; intro bq kq hkq) | (change vcFunD _ _ _ _ _; refine callD_next 0 rfl (by assumption) (by assumption) (by omega) (by omega) ?_; intro v kq hv1 hv2 hkq) | (change vcFunD _ _ _ _ _; refine callD_one2 0 rfl (by assumption) (by assumption) (by omega) (by omega) ?_; intro bq kq hkq) | fail)
  obtain ⟨v, rfl⟩ := Int.eq_ofNat_of_zero_le hv1
  refine loop_for (fun x : Nat × Nat × Nat × List (List PV) => [(0, .ptr 0 2 0 0), (1, vint .i64 n), (5, slP 1 6 x.2.2.2), (6, vint .i64 x.1), (7, vint .i64 x.2.1)]) (fun x => [dice t x.2.2.1, obP 45 6 x.2.2.2])
    (fun x => x.1 ≤ 4 ∧ x.2.1 + 2 * x.1 ≤ 8 ∧ x.2.2.1 ≤ t.length ∧ x.2.2.2.length + 8 * x.1 ≤ 32 ∧ ∀ q ∈ x.2.2.2, ∃ s : Sess, q = s.row) (fun x => x.1) (v, 0, kq, []) ⟨by show v ≤ 4; omega, by show 0 + 2 * v ≤ 8; omega, hkq, by show 0 + 8 * v ≤ 32; omega, fun q hq => by cases hq⟩ ?_ ?_
  · exact back [0, 1] rfl rfl (by repeat' (first | exact trivial | exact rfl | exact ren_get rfl | refine kept_ob rfl ?_ | exact ⟨_, rfl, ALe.refl⟩ | refine And.intro ?_ ?_)) (by repeat' (first | exact trivial | exact rfl | exact ren_get rfl | refine kept_ob rfl ?_ | exact ⟨_, rfl, ALe.refl⟩ | refine And.intro ?_ ?_))
  rintro ⟨m, c, kd, L⟩ ⟨c1, c2, c3, c4, c5⟩
  dsimp only at c1 c2 c3 c4 c5 ⊢
  rcases m with _ | m
  · repeat' (first | (refine fv_sl ?_) | (refine fh_ob ?_) | refine o1 ?_ | refine o2 ?_ | refine k1 ?_ | refine k2 ?_ | refine k3 ?_ | refine k4 ?_ | refine k6 ?_ | refine k7 ?_ | refine k8 ?_ | refine And.intro ?_ ?_ | exact trivial | refine o3 ?_ | refine o4 ?_ | refine o5 ?_ | refine o6 ?_ | refine k5 ?_ | (intro h; first | exact Bool.noConfusion h | exact nz _ h | exact nl h | (simp at h; done) | (simp at h; first | (exfalso; omega) | skip) | skip) | (change retOk _ _ _ _; refine ret_pure rfl trivial ?_) | exact (rfl : allOne _ = true) | (refine (?_ : (0 : Int) ≤ _); omega) | (refine (?_ : _ ≠ _); omega) | (refine (?_ : srcLen _ = rowsLen _); rfl) | exact Nat.le_of_ble_eq_true rfl | exact (by kernel_rfl : drawOk _ _ = true) | refine eqv_len_map ?_ | refine eqv_size ?_ | refine eqv_put (eqv_ck ?_) | refine eqv_zero ?_ | refine eqv_wrap (by omega) (by omega) ?_ | refine eqv_u64 (by omega) (by omega) ?_ | refine eqv_u8 (by omega) (by omega) ?_ | refine eqv_to _ (set_map rfl rfl) ?_ | refine ⟨_, _, (by first | rfl | assumption), at_map (by assumption), ?_⟩ | refine ⟨_, _, (by first | rfl | assumption), (by assumption), ?_⟩ | refine ⟨_, at_map (by assumption), (by decide), ?_⟩ | refine ⟨_, at_map (by assumption), ?_⟩ | (refine (?_ : _ ≤ 140737488355328); simp [rowsLen] <;> omega) | (refine (?_ : _ ≤ 9223372036854775807); simp [rowsLen] <;> omega) | (refine (?_ : _ = rowsLen _); simp [rowsLen] <;> omega) | refine eqv_to _ (app_row rfl) (eqv_to _ app_len ?_) | refine eqv_to _ (app_first rfl) (eqv_to 1 rfl ?_) | refine idx_sl (at_map (by assumption)) (by omega) ?_ | refine idx_ms _ (by first | rfl | assumption) (by first | assumption | omega) ?_ | fail)
    obtain ⟨l, rfl⟩ := rows_sess c5
    exact ret_slD [0] [dice t kd] rfl rfl ⟨rfl, trivial⟩ rfl rfl fun r hr => ⟨l, kd, by rw [List.length_map] at c4; omega, c3, hr, rfl⟩
  · repeat' (first | (refine fv_sl ?_) | (refine fh_ob ?_) | (refine eqv_u64 (by omega) (by omega) ?_) | (refine eqv_to _ e0 ?_) | (refine eqv_to _ e1 ?_) | refine o1 ?_ | refine o2 ?_ | refine k1 ?_ | refine k2 ?_ | refine k3 ?_ | refine k4 ?_ | refine k6 ?_ | refine k7 ?_ | refine k8 ?_ | refine And.intro ?_ ?_ | exact trivial | refine o3 ?_ | refine o4 ?_ | refine o5 ?_ | refine o6 ?_ | refine k5 ?_ | (intro h; first | exact Bool.noConfusion h | exact nz _ h | exact nl h | (simp at h; done) | (simp at h; first | (exfalso; omega) | skip) | skip) | (change retOk _ _ _ _; refine ret_pure rfl trivial ?_) | exact (rfl : allOne _ = true) | (refine (?_ : (0 : Int) ≤ _); omega) | (refine (?_ : _ ≠ _); omega) | (refine (?_ : srcLen _ = rowsLen _); rfl) | exact Nat.le_of_ble_eq_true rfl | exact (by kernel_rfl : drawOk _ _ = true) | refine eqv_len_map ?_ | refine eqv_size ?_ | refine eqv_put (eqv_ck ?_) | refine eqv_zero ?_ | refine eqv_wrap (by omega) (by omega) ?_ | refine eqv_u64 (by omega) (by omega) ?_ | refine eqv_u8 (by omega) (by omega) ?_ | refine eqv_to _ (set_map rfl rfl) ?_ | refine ⟨_, _, (by first | rfl | assumption), at_map (by assumption), ?_⟩ | refine ⟨_, _, (by first | rfl | assumption), (by assumption), ?_⟩ | refine ⟨_, at_map (by assumption), (by decide), ?_⟩ | refine ⟨_, at_map (by assumption), ?_⟩ | (refine (?_ : _ ≤ 140737488355328); simp [rowsLen] <;> omega) | (refine (?_ : _ ≤ 9223372036854775807); simp [rowsLen] <;> omega) | (refine (?_ : _ = rowsLen _); simp [rowsLen] <;> omega) | refine eqv_to _ (app_row rfl) (eqv_to _ app_len ?_) | refine eqv_to _ (app_first rfl) (eqv_to 1 rfl ?_) | refine idx_sl (at_map (by assumption)) (by omega) ?_ | refine idx_ms _ (by first | rfl | assumption) (by first | assumption | omega) ?_ | (change vcFun _ _ _ _ _; refine call_next 0 rfl (by assumption) (by assumption) (by omega) (by omega) ?_; intro v kq hv1 hv2 hkq) | (change vcFun _ _ _ _ _; refine call_one2 0 rfl (by assumption) (by assumption) (by omega) (by omega) ?_; intro bq kq hkq) | (change vcFunD _ _ _ _ _; refine callD_next 0 rfl (by assumption) (by assumption) (by omega) (by omega) ?_; intro v kq hv1 hv2 hkq) | (change vcFunD _ _ _ _ _; refine callD_one2 0 rfl (by assumption) (by assumption) (by omega) (by omega) ?_; intro bq kq hkq) | fail)
    rename_i w hw1 hw2 hwk
    obtain ⟨p, rfl⟩ := Int.eq_ofNat_of_zero_le hv1
    refine loop_for (fun x : Nat × Int × Nat × List (List PV) => [(0, .ptr 0 2 0 0), (1, vint .i64 n), (5, slP 1 6 x.2.2.2), (6, vint .i64 (m + 1 : Nat)), (7, vint .i64 c), (8, vint .i64 x.2.1), (9, vint .i64 x.1)]) (fun x => [dice t x.2.2.1, obP 45 6 x.2.2.2])
      (fun x => x.1 ≤ 3 ∧ x.2.2.1 ≤ t.length ∧ x.2.2.2.length + x.1 ≤ L.length + 3 ∧ ∀ q ∈ x.2.2.2, ∃ s : Sess, q = s.row) (fun x => x.1) (p + 1, Q - 1, kq, L) ⟨by show p + 1 ≤ 3; omega, by assumption, by show L.length + (p + 1) ≤ _; omega, c5⟩ ?_ ?_
    · exact back [0, 1] rfl rfl (by repeat' (first | exact trivial | exact rfl | exact ren_get rfl | refine kept_ob rfl ?_ | exact ⟨_, rfl, ALe.refl⟩ | refine And.intro ?_ ?_)) (by repeat' (first | exact trivial | exact rfl | exact ren_get rfl | refine kept_ob rfl ?_ | exact ⟨_, rfl, ALe.refl⟩ | (refine slot_eq rfl (congrArg (vint .i64) ?_); omega) | refine And.intro ?_ ?_))
    rintro ⟨p, left, kd, R⟩ ⟨d1, d2, d3, d4⟩
    dsimp only at d1 d2 d3 d4 ⊢
    rcases p with _ | p
    · repeat' (first | (refine fv_sl ?_) | (refine fh_ob ?_) | refine o1 ?_ | refine o2 ?_ | refine k1 ?_ | refine k2 ?_ | refine k3 ?_ | refine k4 ?_ | refine k6 ?_ | refine k7 ?_ | refine k8 ?_ | refine And.intro ?_ ?_ | exact trivial | refine o3 ?_ | refine o4 ?_ | refine o5 ?_ | refine o6 ?_ | refine k5 ?_ | (intro h; first | exact Bool.noConfusion h | exact nz _ h | exact nl h | (simp at h; done) | (simp at h; first | (exfalso; omega) | skip) | skip) | (change retOk _ _ _ _; refine ret_pure rfl trivial ?_) | exact (rfl : allOne _ = true) | (refine (?_ : (0 : Int) ≤ _); omega) | (refine (?_ : _ ≠ _); omega) | (refine (?_ : srcLen _ = rowsLen _); rfl) | exact Nat.le_of_ble_eq_true rfl | exact (by kernel_rfl : drawOk _ _ = true) | refine eqv_len_map ?_ | refine eqv_size ?_ | refine eqv_put (eqv_ck ?_) | refine eqv_zero ?_ | refine eqv_wrap (by omega) (by omega) ?_ | refine eqv_u64 (by omega) (by omega) ?_ | refine eqv_u8 (by omega) (by omega) ?_ | refine eqv_to _ (set_map rfl rfl) ?_ | refine ⟨_, _, (by first | rfl | assumption), at_map (by assumption), ?_⟩ | refine ⟨_, _, (by first | rfl | assumption), (by assumption), ?_⟩ | refine ⟨_, at_map (by assumption), (by decide), ?_⟩ | refine ⟨_, at_map (by assumption), ?_⟩ | (refine (?_ : _ ≤ 140737488355328); simp [rowsLen] <;> omega) | (refine (?_ : _ ≤ 9223372036854775807); simp [rowsLen] <;> omega) | (refine (?_ : _ = rowsLen _); simp [rowsLen] <;> omega) | refine eqv_to _ (app_row rfl) (eqv_to _ app_len ?_) | refine eqv_to _ (app_first rfl) (eqv_to 1 rfl ?_) | refine idx_sl (at_map (by assumption)) (by omega) ?_ | refine idx_ms _ (by first | rfl | assumption) (by first | assumption | omega) ?_ | (change vcFun _ _ _ _ _; refine call_next 0 rfl (by assumption) (by assumption) (by omega) (by omega) ?_; intro v kq hv1 hv2 hkq) | (change vcFun _ _ _ _ _; refine call_one2 0 rfl (by assumption) (by assumption) (by omega) (by omega) ?_; intro bq kq hkq) | (change vcFunD _ _ _ _ _; refine callD_next 0 rfl (by assumption) (by assumption) (by omega) (by omega) ?_; intro v kq hv1 hv2 hkq) | (change vcFunD _ _ _ _ _; refine callD_one2 0 rfl (by assumption) (by assumption) (by omega) (by omega) ?_; intro bq kq hkq) | fail)
      obtain ⟨v, rfl⟩ := Int.eq_ofNat_of_zero_le hv1
      exact ⟨(m, c + (1 + v), kq, R), ⟨by show m ≤ 4; omega, by show (c + (1 + v)) + 2 * m ≤ 8; omega, hkq, by show R.length + 8 * m ≤ 32; omega, d4⟩, by show m < m + 1; omega, back [0, 1] rfl rfl (by repeat' (first | exact trivial | exact rfl | exact ren_get rfl | refine kept_ob rfl ?_ | exact ⟨_, rfl, ALe.refl⟩ | refine And.intro ?_ ?_)) (by repeat' (first | exact trivial | exact rfl | exact ren_get rfl | refine kept_ob rfl ?_ | exact ⟨_, rfl, ALe.refl⟩ | (refine slot_eq rfl (congrArg (vint .i64) ?_); omega) | refine And.intro ?_ ?_))⟩
    · have fin : ∀ {Γ : Slots} {H : Heap} {x : List PV} {kq : Nat} {lf : Int}, kq ≤ t.length → (∃ s : Sess, x = s.row) → Ghost 80 1 Γ H [(0, .ptr 0 2 0 0), (1, vint .i64 n), (5, .ms 1 6 0 (R.length + 1)), (6, vint .i64 (m + 1 : Nat)), (7, vint .i64 c), (8, vint .i64 lf), (9, vint .i64 p)] [dice t kq, some ⟨45, 6, false, .p (R ++ [x])⟩] →
          ∃ y : Nat × Int × Nat × List (List PV), (y.1 ≤ 3 ∧ y.2.2.1 ≤ t.length ∧ y.2.2.2.length + y.1 ≤ L.length + 3 ∧ ∀ q ∈ y.2.2.2, ∃ s : Sess, q = s.row) ∧ y.1 < p + 1 ∧ Ghost 80 1 Γ H [(0, .ptr 0 2 0 0), (1, vint .i64 n), (5, slP 1 6 y.2.2.2), (6, vint .i64 (m + 1 : Nat)), (7, vint .i64 c), (8, vint .i64 y.2.1), (9, vint .i64 y.1)] [dice t y.2.2.1, obP 45 6 y.2.2.2] := fun {Γ H x kq lf} h1 h2 h3 =>
        ⟨(p, lf, kq, R ++ [x]), ⟨by show p ≤ 3; omega, h1, by show (R ++ [x]).length + p ≤ _; rw [List.length_append]; show R.length + 1 + p ≤ _; omega, fun q hq => (List.mem_append.1 hq).elim (d4 q) fun hq => by rw [List.mem_singleton.1 hq]; exact h2⟩, by show p < p + 1; omega, by dsimp only; rw [sl_app, ob_app]; exact h3⟩
      repeat' (first | (refine fv_sl ?_) | (refine fh_ob ?_) | ((change vcFun _ _ _ _ _; refine call_set 0 hn rfl (by assumption) (by assumption) ?_; intro wq kq hkq)) | (refine (eqv_rfl ?_ : eqv (bits _ _ _ _) _)) | (refine bytes_one (by omega) (by omega) rfl (fun s hs => ?_)) | ((show Nat.le (ByteArray.size _ + ByteArray.size _) _; rw [hs]; exact Nat.le_of_ble_eq_true rfl)) | ((refine o_app rfl rfl rfl rfl rfl rfl rfl rfl rfl rfl rfl (by omega) (by omega) ?_)) | refine o1 ?_ | refine o2 ?_ | refine k1 ?_ | refine k2 ?_ | refine k3 ?_ | refine k4 ?_ | refine k6 ?_ | refine k7 ?_ | refine k8 ?_ | refine And.intro ?_ ?_ | exact trivial | refine o3 ?_ | refine o4 ?_ | refine o5 ?_ | refine o6 ?_ | refine k5 ?_ | (intro h; first | exact Bool.noConfusion h | exact nz _ h | exact nl h | (simp at h; done) | (simp at h; first | (exfalso; omega) | skip) | skip) | (change retOk _ _ _ _; refine ret_pure rfl trivial ?_) | exact (rfl : allOne _ = true) | (refine (?_ : (0 : Int) ≤ _); omega) | (refine (?_ : _ ≠ _); omega) | (refine (?_ : srcLen _ = rowsLen _); rfl) | exact Nat.le_of_ble_eq_true rfl | exact (by kernel_rfl : drawOk _ _ = true) | refine eqv_len_map ?_ | refine eqv_size ?_ | refine eqv_put (eqv_ck ?_) | refine eqv_zero ?_ | refine eqv_wrap (by omega) (by omega) ?_ | refine eqv_u64 (by omega) (by omega) ?_ | refine eqv_u8 (by omega) (by omega) ?_ | refine eqv_to _ (set_map rfl rfl) ?_ | refine ⟨_, _, (by first | rfl | assumption), at_map (by assumption), ?_⟩ | refine ⟨_, _, (by first | rfl | assumption), (by assumption), ?_⟩ | refine ⟨_, at_map (by assumption), (by decide), ?_⟩ | refine ⟨_, at_map (by assumption), ?_⟩ | (refine (?_ : _ ≤ 140737488355328); simp [rowsLen] <;> omega) | (refine (?_ : _ ≤ 9223372036854775807); simp [rowsLen] <;> omega) | (refine (?_ : _ = rowsLen _); simp [rowsLen] <;> omega) | refine eqv_to _ (app_row rfl) (eqv_to _ app_len ?_) | refine eqv_to _ (app_first rfl) (eqv_to 1 rfl ?_) | refine idx_sl (at_map (by assumption)) (by omega) ?_ | refine idx_ms _ (by first | rfl | assumption) (by first | assumption | omega) ?_ | (change vcFun _ _ _ _ _; refine call_next 0 rfl (by assumption) (by assumption) (by omega) (by omega) ?_; intro v kq hv1 hv2 hkq) | (change vcFun _ _ _ _ _; refine call_one2 0 rfl (by assumption) (by assumption) (by omega) (by omega) ?_; intro bq kq hkq) | (change vcFunD _ _ _ _ _; refine callD_next 0 rfl (by assumption) (by assumption) (by omega) (by omega) ?_; intro v kq hv1 hv2 hkq) | (change vcFunD _ _ _ _ _; refine callD_one2 0 rfl (by assumption) (by assumption) (by omega) (by omega) ?_; intro bq kq hkq) | fail)
      all_goals try (exfalso; omega)
      · exact ⟨(p, left, kq, R), ⟨by show p ≤ 3; omega, hkq, by show R.length + p ≤ _; omega, d4⟩, by show p < p + 1; omega, back [0, 1] rfl rfl (by repeat' (first | exact trivial | exact rfl | exact ren_get rfl | refine kept_ob rfl ?_ | exact ⟨_, rfl, ALe.refl⟩ | refine And.intro ?_ ?_)) (by repeat' (first | exact trivial | exact rfl | exact ren_get rfl | refine kept_ob rfl ?_ | exact ⟨_, rfl, ALe.refl⟩ | (refine slot_eq rfl (congrArg (vint .i64) ?_); omega) | refine And.intro ?_ ?_))⟩
      · exact fin hkq ⟨⟨_, ⟨_, _, _, _⟩, _⟩, rfl⟩ (back [0, 6] rfl rfl ⟨rfl, rfl, trivial⟩ ⟨rfl, rfl, rfl, rfl, rfl, rfl, slot_eq rfl (congrArg (vint .i64) (show ((p + 1 : Nat) : Int) - 1 = (p : Int) by omega)), trivial⟩)
      · exact fin (by assumption) ⟨⟨_, ⟨_, _, _, _⟩, _⟩, rfl⟩ (back [0, 5] rfl rfl ⟨rfl, rfl, trivial⟩ ⟨rfl, rfl, rfl, rfl, rfl, rfl, slot_eq rfl (congrArg (vint .i64) (show ((p + 1 : Nat) : Int) - 1 = (p : Int) by omega)), trivial⟩)
      · obtain ⟨v, rfl⟩ := Int.eq_ofNat_of_zero_le hv1
        exact ⟨(m, c + (1 + v), kq, R), ⟨by show m ≤ 4; omega, by show (c + (1 + v)) + 2 * m ≤ 8; omega, hkq, by show R.length + 8 * m ≤ 32; omega, d4⟩, by show m < m + 1; omega, back [0, 1] rfl rfl (by repeat' (first | exact trivial | exact rfl | exact ren_get rfl | refine kept_ob rfl ?_ | exact ⟨_, rfl, ALe.refl⟩ | refine And.intro ?_ ?_)) (by repeat' (first | exact trivial | exact rfl | exact ren_get rfl | refine kept_ob rfl ?_ | exact ⟨_, rfl, ALe.refl⟩ | (refine slot_eq rfl (congrArg (vint .i64) ?_); omega) | refine And.intro ?_ ?_))⟩
theorem call_seq {t : List Int} {k : Nat} {H : Heap} {K : AV → Heap → Prop} (i : Nat) {n : Int} (hn : 1 ≤ n ∧ n ≤ 20) (hi : H[i]? = some (dice t k)) (ht : t.length ≤ 400) (hk : k ≤ t.length)
    (hK : ∀ (l : List Sess) k2, l.length ≤ 100 → k2 ≤ t.length → K (.pv (encSess l)) (H.set i (dice t k2))) : vcFun Tryd.prog 21 [.ptr i 2 0 0, vint .i64 n] H K := by
  have hc : ACall Tryd.prog 21 [.ptr 0 2 0 0, vint .i64 n] [dice t k] (fun r H' => ∃ (l : List Sess) (k' : Nat), l.length ≤ 100 ∧ k' ≤ t.length ∧ r = .pv (encSess l) ∧ H' = [dice t k']) :=
    (c_seq t k ht hk n hn).weak fun r H' ⟨l, k', h1, h2, h3, h4⟩ => ⟨.pv (encSess l), h3, l, k', h1, h2, rfl, h4⟩
  refine call_one (i := i) hi (fun _ _ => rfl) [.ptr 0 2 0 0, vint .i64 n] rfl hc ?_
  rintro r H' ⟨l, k', h1, h2, rfl, rfl⟩
  exact ⟨_, rfl, fun _ _ => rfl, fun _ _ => rfl, hK l k' h1 h2⟩
end Go.Proofs.YtbcacaodfpgflaaDoor.Cw

/-
  Contracts: odd sessions by dice; the lists of the laws.
-/
namespace Go.Proofs.YtbcacaodfpgflaaDoor.Cw
open Go Go.Cw Go.Proofs
set_option linter.unusedVariables false
set_option maxRecDepth 100000
set_option maxHeartbeats 8000000

theorem sess_at {l : List Sess} {k n : Nat} {C : List PV → Prop} (hn : n = l.length) (hk : k < n) (h : ∀ s : Sess, C s.row) : ∃ q, (l.map Sess.row)[0 + k]? = some q ∧ C q := by
  obtain ⟨s, hs⟩ := getE (show k < l.length by omega)
  exact ⟨s.row, by rw [Nat.zero_add, List.getElem?_map, hs]; rfl, h s⟩
theorem set_c {l : List Sess} {n : Nat} {y : Str} {s : Sess} : (l.map Sess.row).set n (splice 0 [es y] s.row) = (l.set n ⟨y, s.time, s.room⟩).map Sess.row := by rw [List.map_set]; rfl
theorem set_r {l : List Sess} {n : Nat} {y : Str} {s : Sess} : (l.map Sess.row).set n (splice 5 [es y] s.row) = (l.set n ⟨s.cls, s.time, y⟩).map Sess.row := by rw [List.map_set]; rfl
theorem set_tm {l : List Sess} {n : Nat} {y : Time} {s : Sess} : (l.map Sess.row).set n (splice 1 y.row s.row) = (l.set n ⟨s.cls, y, s.room⟩).map Sess.row := by rw [List.map_set]; rfl
theorem set_wk {l : List Sess} {n : Nat} {v : Int} {s : Sess} : (l.map Sess.row).set n (splice 1 [ei v] s.row) = (l.set n ⟨s.cls, ⟨v, s.time.day, s.time.start, s.time.len⟩, s.room⟩).map Sess.row := by rw [List.map_set]; rfl
theorem fin_odd {t : List Int} {k n : Nat} {l : List Sess} {H : Heap} {i : Nat} (hk : k ≤ t.length) (hi : i ≠ 0) (h0 : H[0]? = some (dice t k)) (hl : H[i]? = some (some ⟨45, 6, false, .p (l.map Sess.row)⟩)) (hn : n = l.length) (hb : l.length ≤ 1000) :
    retOk 1 (.ms i 6 0 n) H (fun r H' => ∃ (l : List Sess) (k' : Nat), l.length ≤ 1000 ∧ k' ≤ t.length ∧ ALe r (.pv (encSess l)) ∧ H' = [dice t k']) := by
  subst hn
  have hx : ([0] : List Nat).all (fun y => !Nat.beq i y) = true := by
    rcases i with _ | i
    · exact absurd rfl hi
    · rfl
  by_cases hL : l = []
  · subst hL
    refine ret_conv [0] [dice t k] rfl rfl ⟨h0, trivial⟩ (r0 := .pv (.sl 6 [])) ?_ ?_ ?_ ⟨[], k, hb, hk, ALe.refl, rfl⟩
    · simp [conv, conv1, convC, hl]
    · simp [ok1, ok0, okC, hl]
    · simp only [ids1, ids0, idsC, hl]
      simpa [disj] using hx
  · have e1 := sl_ne (id := i) (z := 6) (f := Sess.row) hL rfl
    have e2 := ob_ne (ty := 45) (z := 6) (f := Sess.row) hL
    rw [← e1]
    rw [← e2] at hl
    exact ret_slD [0] [dice t k] rfl rfl ⟨h0, trivial⟩ hl hx fun r hr => ⟨l, k, hb, hk, hr, rfl⟩
theorem rem26 {i : Nat} {K : Int → Prop} (h : ∀ v : Int, 0 ≤ v → v < 26 → K v) : eqv ((i : Int).tmod 26) K :=
  ⟨_, rfl, h _ (by rw [Int.tmod_eq_emod_of_nonneg (by omega)]; omega) (by rw [Int.tmod_eq_emod_of_nonneg (by omega)]; omega)⟩
theorem div26 {i : Nat} {K : Int → Prop} (hi : (i : Int) < 97) (h : ∀ v : Int, 0 ≤ v → v < 26 → K v) : eqv (IntKind.i64.wrap ((i : Int).tdiv 26)) K := by
  have e : (i : Int).tdiv 26 = (i : Int) / 26 := Int.tdiv_eq_ediv_of_nonneg (by omega)
  rw [e, wrap64 (by omega) (by omega)]
  exact ⟨_, rfl, h _ (by omega) (by omega)⟩
theorem bytes_two {v w : Int} {n m : Nat} {K : Str → Prop} (h1 : 0 ≤ v ∧ v < 256) (h2 : 0 ≤ w ∧ w < 256) (hn : n = m) (h : ∀ s, s.size = 2 → K s) : ∃ b, List.take 2 (List.drop 0 [[PV.val (.int .u8 v)], [PV.val (.int .u8 w)]]) = bytesRows b ∧ n = m ∧ K b := by
  refine ⟨⟨#[v.toNat.toUInt8, w.toNat.toUInt8]⟩, ?_, hn, h _ rfl⟩
  show [[PV.val (.int .u8 v)], [PV.val (.int .u8 w)]] = [[PV.val (.int .u8 _)], [PV.val (.int .u8 _)]]
  have e1 : ((v.toNat.toUInt8).toNat : Int) = v := by simp [UInt8.toNat_ofNat']; omega
  have e2 : ((w.toNat.toUInt8).toNat : Int) = w := by simp [UInt8.toNat_ofNat']; omega
  rw [e1, e2]
theorem app_o {R : List (List PV)} {x : List PV} {K : Go.Cw.Rows → Nat → Prop} (h : K (.p (R ++ [x])) (R.length + 1)) : eqv (Go.Cw.Rows.p (List.drop 0 R ++ List.take 1 (List.drop 0 [x]))) fun rr => eqv (rowsLen rr) (K rr) :=
  ⟨_, rfl, _, by simp [rowsLen], h⟩
theorem c_oddS (t : List Int) (k : Nat) (ht : t.length ≤ 400) (hk : k ≤ t.length) (l : List Sess) (hl : l.length ≤ 400) :
    ACall Tryd.prog 24 [.ptr 0 2 0 0, .pv (encSess l)] [dice t k] (fun r H' => ∃ (l : List Sess) (k' : Nat), l.length ≤ 1000 ∧ k' ≤ t.length ∧ ALe r (.pv (encSess l)) ∧ H' = [dice t k']) := by
  by_cases hL : l = []
  · subst hL
    refine acall_of tok mixed 104 rfl (fn := Tryd.f24) (c := Tryd.f24.body.getD .skip) (by kernel_rfl) (by kernel_rfl) (by kernel_rfl) rfl 1 rfl ?_
    repeat' (first | (refine lit_idx (by assumption) (by assumption) (fun kx hkx => ?_)) | (refine lits_load rfl (by assumption) rfl (fun y => ?_)) | refine o1 ?_ | refine o2 ?_ | refine k1 ?_ | refine k2 ?_ | refine k3 ?_ | refine k4 ?_ | refine k6 ?_ | refine k7 ?_ | refine k8 ?_ | refine And.intro ?_ ?_ | exact trivial | refine o3 ?_ | refine o4 ?_ | refine o5 ?_ | refine o6 ?_ | refine k5 ?_ | (intro h; first | exact Bool.noConfusion h | exact nz _ h | exact nl h | (simp at h; done) | (simp at h; first | (exfalso; omega) | skip) | skip) | (change retOk _ _ _ _; refine ret_pure rfl trivial ?_) | exact (rfl : allOne _ = true) | (refine (?_ : (0 : Int) ≤ _); omega) | (refine (?_ : _ ≠ _); omega) | (refine (?_ : srcLen _ = rowsLen _); rfl) | exact Nat.le_of_ble_eq_true rfl | exact (by kernel_rfl : drawOk _ _ = true) | refine eqv_len_map ?_ | refine eqv_size ?_ | refine eqv_put (eqv_ck ?_) | refine eqv_zero ?_ | refine eqv_wrap (by omega) (by omega) ?_ | refine eqv_u64 (by omega) (by omega) ?_ | refine eqv_u8 (by omega) (by omega) ?_ | refine eqv_to _ (set_map rfl rfl) ?_ | refine ⟨_, _, (by first | rfl | assumption), at_map (by assumption), ?_⟩ | refine ⟨_, _, (by first | rfl | assumption), (by assumption), ?_⟩ | refine ⟨_, at_map (by assumption), (by decide), ?_⟩ | refine ⟨_, at_map (by assumption), ?_⟩ | (refine (?_ : _ ≤ 140737488355328); simp [rowsLen] <;> omega) | (refine (?_ : _ ≤ 9223372036854775807); simp [rowsLen] <;> omega) | (refine (?_ : _ = rowsLen _); simp [rowsLen] <;> omega) | refine eqv_to _ (app_row rfl) (eqv_to _ app_len ?_) | refine eqv_to _ (app_first rfl) (eqv_to 1 rfl ?_) | refine idx_sl (at_map (by assumption)) (by omega) ?_ | refine idx_ms _ (by first | rfl | assumption) (by first | assumption | omega) ?_ | (change vcFun _ _ _ _ _; refine call_next 0 rfl (by assumption) (by assumption) (by omega) (by omega) ?_; intro v kq hv1 hv2 hkq) | (change vcFun _ _ _ _ _; refine call_one2 0 rfl (by assumption) (by assumption) (by omega) (by omega) ?_; intro bq kq hkq) | (change vcFunD _ _ _ _ _; refine callD_next 0 rfl (by assumption) (by assumption) (by omega) (by omega) ?_; intro v kq hv1 hv2 hkq) | (change vcFunD _ _ _ _ _; refine callD_one2 0 rfl (by assumption) (by assumption) (by omega) (by omega) ?_; intro bq kq hkq) | fail)
    all_goals try (exfalso; omega)
    · exact fin_odd (l := [⟨_, ⟨_, _, _, _⟩, _⟩]) (by assumption) (Nat.succ_ne_zero _) rfl rfl rfl (by simp)
  · have hlen : 0 < l.length := List.length_pos_iff.2 hL
    refine acall_of tok mixed 104 rfl (fn := Tryd.f24) (c := Tryd.f24.body.getD .skip) (by kernel_rfl) (by kernel_rfl) (by kernel_rfl) rfl 1 rfl ?_
    repeat' (first | (refine eqv_to (Rows.p (l.map Sess.row)) rfl (eqv_to l.length (by simp [rowsLen]) ?_)) | (refine lit_idx (by assumption) (by assumption) (fun kx hkx => ?_)) | (refine lits_load rfl (by assumption) rfl (fun y => ?_)) | ((refine sess_at rfl (by assumption) (fun s => ⟨(Nat.le_of_ble_eq_true rfl), ?_⟩))) | ((refine sess_at rfl (by assumption) (fun s => ?_))) | (refine eqv_to _ set_c ?_) | (refine eqv_to _ set_r ?_) | (refine eqv_to _ set_tm ?_) | (refine eqv_to _ set_wk ?_) | ((change vcFun _ _ _ _ _; refine call_oddtime 0 ⟨_, _, _, _⟩ rfl (by assumption) (by assumption) ?_; intro yt kq hkq)) | ((change vcFunD _ _ _ _ _; refine callD_next 0 rfl (by assumption) (by assumption) (by omega) (by omega) ?_; intro v kq hv1 hv2 hkq)) | refine o1 ?_ | refine o2 ?_ | refine k1 ?_ | refine k2 ?_ | refine k3 ?_ | refine k4 ?_ | refine k6 ?_ | refine k7 ?_ | refine k8 ?_ | refine And.intro ?_ ?_ | exact trivial | refine o3 ?_ | refine o4 ?_ | refine o5 ?_ | refine o6 ?_ | refine k5 ?_ | (intro h; first | exact Bool.noConfusion h | exact nz _ h | exact nl h | (simp at h; done) | (simp at h; first | (exfalso; omega) | skip) | skip) | (change retOk _ _ _ _; refine ret_pure rfl trivial ?_) | exact (rfl : allOne _ = true) | (refine (?_ : (0 : Int) ≤ _); omega) | (refine (?_ : _ ≠ _); omega) | (refine (?_ : srcLen _ = rowsLen _); rfl) | exact Nat.le_of_ble_eq_true rfl | exact (by kernel_rfl : drawOk _ _ = true) | refine eqv_len_map ?_ | refine eqv_size ?_ | refine eqv_put (eqv_ck ?_) | refine eqv_zero ?_ | refine eqv_wrap (by omega) (by omega) ?_ | refine eqv_u64 (by omega) (by omega) ?_ | refine eqv_u8 (by omega) (by omega) ?_ | refine eqv_to _ (set_map rfl rfl) ?_ | refine ⟨_, _, (by first | rfl | assumption), at_map (by assumption), ?_⟩ | refine ⟨_, _, (by first | rfl | assumption), (by assumption), ?_⟩ | refine ⟨_, at_map (by assumption), (by decide), ?_⟩ | refine ⟨_, at_map (by assumption), ?_⟩ | (refine (?_ : _ ≤ 140737488355328); simp [rowsLen] <;> omega) | (refine (?_ : _ ≤ 9223372036854775807); simp [rowsLen] <;> omega) | (refine (?_ : _ = rowsLen _); simp [rowsLen] <;> omega) | refine eqv_to _ (app_row rfl) (eqv_to _ app_len ?_) | refine eqv_to _ (app_first rfl) (eqv_to 1 rfl ?_) | refine idx_sl (at_map (by assumption)) (by omega) ?_ | refine idx_ms _ (by first | rfl | assumption) (by first | assumption | omega) ?_ | (change vcFun _ _ _ _ _; refine call_next 0 rfl (by assumption) (by assumption) (by omega) (by omega) ?_; intro v kq hv1 hv2 hkq) | (change vcFun _ _ _ _ _; refine call_one2 0 rfl (by assumption) (by assumption) (by omega) (by omega) ?_; intro bq kq hkq) | (change vcFunD _ _ _ _ _; refine callD_next 0 rfl (by assumption) (by assumption) (by omega) (by omega) ?_; intro v kq hv1 hv2 hkq) | (change vcFunD _ _ _ _ _; refine callD_one2 0 rfl (by assumption) (by assumption) (by omega) (by omega) ?_; intro bq kq hkq) | fail)
    all_goals try (exfalso; omega)
    all_goals try (exact absurd (by assumption) hL)
    all_goals try (exact absurd (show rowsLen (Rows.p (l.map Sess.row)) = 0 by assumption) (by simp [rowsLen, hL]))
    all_goals try (exact fin_odd (l := l.set _ _) (by assumption) (Nat.succ_ne_zero _) rfl rfl (by rw [List.length_set]) (by rw [List.length_set]; omega))
    · exact fin_odd (l := l ++ [_]) (by assumption) (Nat.succ_ne_zero _) rfl rfl rfl (by rw [List.length_append]; show l.length + 1 ≤ _; omega)
    rename_i kq _ _ _ _ _ _ _ _
    refine loop_for (fun x : Nat × List (List PV) => [(5, .ms 1 6 0 x.2.length), (7, vint .i64 x.1)]) (fun x => [dice t kq, some ⟨45, 6, false, .p x.2⟩])
      (fun x => x.1 ≤ 97 ∧ x.2.length ≤ 400 + x.1 ∧ ∀ q ∈ x.2, ∃ s : Sess, q = s.row) (fun x => 97 - x.1) (0, l.map Sess.row) ⟨Nat.zero_le _, by show (l.map Sess.row).length ≤ _; rw [List.length_map]; omega, fun q hq => by obtain ⟨s, _, rfl⟩ := List.mem_map.1 hq; exact ⟨s, rfl⟩⟩ ?_ ?_
    · refine back [0, 1] rfl rfl ⟨rfl, rfl, trivial⟩ ?_
      dsimp only
      rw [List.length_map]
      repeat' (first | exact trivial | exact rfl | exact ren_get rfl | refine kept_ob rfl ?_ | exact ⟨_, rfl, ALe.refl⟩ | refine And.intro ?_ ?_)
    have fin : ∀ {Γ : Slots} {H : Heap} {x : List PV} {R : List (List PV)} {i : Nat}, (∃ s : Sess, x = s.row) → i ≤ 97 → R.length ≤ 400 + i → (∀ q ∈ R, ∃ s : Sess, q = s.row) → (i : Int) < 97 → Ghost 104 1 Γ H [(5, .ms 1 6 0 (R.length + 1)), (7, vint .i64 (i + 1 : Nat))] [dice t kq, some ⟨45, 6, false, .p (R ++ [x])⟩] →
        ∃ y : Nat × List (List PV), (y.1 ≤ 97 ∧ y.2.length ≤ 400 + y.1 ∧ ∀ q ∈ y.2, ∃ s : Sess, q = s.row) ∧ 97 - y.1 < 97 - i ∧ Ghost 104 1 Γ H [(5, .ms 1 6 0 y.2.length), (7, vint .i64 y.1)] [dice t kq, some ⟨45, 6, false, .p y.2⟩] := fun {Γ H x R i} h1 d1 d2 d3 h2 h3 =>
      ⟨(i + 1, R ++ [x]), ⟨by show i + 1 ≤ 97; omega, by show (R ++ [x]).length ≤ _; rw [List.length_append]; show R.length + 1 ≤ 400 + (i + 1); omega, fun q hq => (List.mem_append.1 hq).elim (d3 q) fun hq => by rw [List.mem_singleton.1 hq]; exact h1⟩, by show 97 - (i + 1) < 97 - i; omega, by dsimp only; rw [List.length_append]; exact h3⟩
    rintro ⟨i, R⟩ ⟨d1, d2, d3⟩
    dsimp only at d1 d2 d3 ⊢
    repeat' (first | (refine rem26 (fun v1 hv11 hv12 => ?_)) | (refine div26 (by assumption) (fun v2 hv21 hv22 => ?_)) | (refine bytes_two (by omega) (by omega) rfl (fun s hs => ?_)) | ((show Nat.le (ByteArray.size _ + ByteArray.size _) _; rw [hs]; exact Nat.le_of_ble_eq_true rfl)) | (refine app_o ?_) | refine o1 ?_ | refine o2 ?_ | refine k1 ?_ | refine k2 ?_ | refine k3 ?_ | refine k4 ?_ | refine k6 ?_ | refine k7 ?_ | refine k8 ?_ | refine And.intro ?_ ?_ | exact trivial | refine o3 ?_ | refine o4 ?_ | refine o5 ?_ | refine o6 ?_ | refine k5 ?_ | (intro h; first | exact Bool.noConfusion h | exact nz _ h | exact nl h | (simp at h; done) | (simp at h; first | (exfalso; omega) | skip) | skip) | (change retOk _ _ _ _; refine ret_pure rfl trivial ?_) | exact (rfl : allOne _ = true) | (refine (?_ : (0 : Int) ≤ _); omega) | (refine (?_ : _ ≠ _); omega) | (refine (?_ : srcLen _ = rowsLen _); rfl) | exact Nat.le_of_ble_eq_true rfl | exact (by kernel_rfl : drawOk _ _ = true) | refine eqv_len_map ?_ | refine eqv_size ?_ | refine eqv_put (eqv_ck ?_) | refine eqv_zero ?_ | refine eqv_wrap (by omega) (by omega) ?_ | refine eqv_u64 (by omega) (by omega) ?_ | refine eqv_u8 (by omega) (by omega) ?_ | refine eqv_to _ (set_map rfl rfl) ?_ | refine ⟨_, _, (by first | rfl | assumption), at_map (by assumption), ?_⟩ | refine ⟨_, _, (by first | rfl | assumption), (by assumption), ?_⟩ | refine ⟨_, at_map (by assumption), (by decide), ?_⟩ | refine ⟨_, at_map (by assumption), ?_⟩ | (refine (?_ : _ ≤ 140737488355328); simp [rowsLen] <;> omega) | (refine (?_ : _ ≤ 9223372036854775807); simp [rowsLen] <;> omega) | (refine (?_ : _ = rowsLen _); simp [rowsLen] <;> omega) | refine eqv_to _ (app_row rfl) (eqv_to _ app_len ?_) | refine eqv_to _ (app_first rfl) (eqv_to 1 rfl ?_) | refine idx_sl (at_map (by assumption)) (by omega) ?_ | refine idx_ms _ (by first | rfl | assumption) (by first | assumption | omega) ?_ | fail)
    all_goals try (exfalso; omega)
    · exact fin (i := i) ⟨⟨_, ⟨_, _, _, _⟩, _⟩, rfl⟩ d1 d2 d3 (by assumption) (back [0, 4] rfl rfl ⟨rfl, rfl, trivial⟩ ⟨rfl, rfl, trivial⟩)
    · obtain ⟨L, rfl⟩ := rows_sess d3
      rw [List.length_map] at d2 ⊢
      exact fin_odd (by assumption) (Nat.succ_ne_zero _) rfl rfl rfl (by omega)
theorem call_oddS {t : List Int} {k : Nat} {l : List Sess} {H : Heap} {K : AV → Heap → Prop} (i : Nat) (hi : H[i]? = some (dice t k)) (ht : t.length ≤ 400) (hk : k ≤ t.length) (hl : l.length ≤ 400)
    (hK : ∀ (l : List Sess) k2, l.length ≤ 1000 → k2 ≤ t.length → K (.pv (encSess l)) (H.set i (dice t k2))) : vcFun Tryd.prog 24 [.ptr i 2 0 0, .pv (encSess l)] H K := by
  have hc : ACall Tryd.prog 24 [.ptr 0 2 0 0, .pv (encSess l)] [dice t k] (fun r H' => ∃ (l : List Sess) (k' : Nat), l.length ≤ 1000 ∧ k' ≤ t.length ∧ r = .pv (encSess l) ∧ H' = [dice t k']) :=
    (c_oddS t k ht hk l hl).weak fun r H' ⟨l, k', h1, h2, h3, h4⟩ => ⟨.pv (encSess l), h3, l, k', h1, h2, rfl, h4⟩
  refine call_one (i := i) hi (fun _ _ => rfl) [.ptr 0 2 0 0, .pv (encSess l)] rfl hc ?_
  rintro r H' ⟨l, k', h1, h2, rfl, rfl⟩
  exact ⟨_, rfl, fun _ _ => rfl, fun _ _ => rfl, hK l k' h1 h2⟩
theorem call_weeks {t : List Int} {k : Nat} {H : Heap} {K : AV → Heap → Prop} (i : Nat) (hi : H[i]? = some (dice t k)) (ht : t.length ≤ 400) (hk : k ≤ t.length)
    (hK : ∀ (w : Int) k2, k2 ≤ t.length → K (vint .i64 w) (H.set i (dice t k2))) : vcFun Tryd.prog 20 [.ptr i 2 0 0] H K := by
  refine call_one (i := i) hi (fun _ _ => rfl) [.ptr 0 2 0 0] rfl (c_weeksD t k ht hk) ?_
  rintro r H' ⟨w, k', h1, rfl, rfl⟩
  exact ⟨_, rfl, fun _ _ => rfl, fun _ _ => rfl, hK w k' h1⟩
end Go.Proofs.YtbcacaodfpgflaaDoor.Cw

/-
  Contracts: the lists of the laws.
-/
namespace Go.Proofs.YtbcacaodfpgflaaDoor.Cw
open Go Go.Cw Go.Proofs
set_option linter.unusedVariables false
set_option maxRecDepth 100000
set_option maxHeartbeats 8000000

theorem mod8 (w : Int) : 0 ≤ modI w 8 ∧ modI w 8 < 8 := by
  unfold modI; omega
def nilC : AV := .pv (.val (.slice none 0 0))
def celC (j i : Nat) (l : List Sess) : AV := cond (Nat.blt j i) (.pv (encSess l)) nilC
def boxC (i : Nat) (a b c : List Sess) : Option AObj := some ⟨26, 3, false, .box [celC 0 i a, celC 1 i b, celC 2 i c]⟩
theorem call_rnorm {l : List Sess} {w : Int} {H : Heap} {K : AV → Heap → Prop} (hl : l.length ≤ 1000000000) (hK : K (.tup [.pv (encSess (normV l w)), vint .i64 (normE l w)]) H) : vcFun Tryd.prog 14 [.pv (encSess l), vint .i64 w] H K := by
  refine call_frz (as0 := [.pv (encSess l), vint .i64 w]) rfl (by repeat' (first | trivial | refine And.intro ?_ ?_ | (show 0 + _ ≤ List.length _; simp))) ALeL.refl (c_rnorm l w hl) ?_
  rintro r rfl
  exact hK
theorem norm_len {l : List Sess} {w : Int} (h : normE l w = 0) : (normV l w).length ≤ 96 := by
  unfold normV
  rw [if_pos h, ord_len]
  exact (norm_parts h).2.2.2
theorem c_lists (t : List Int) (ht : t.length ≤ 400) :
    ACall Tryd.prog 8 [.ptr 0 2 0 0] [dice t 0] (fun r H' => ∃ (w : Int) (a b c : List Sess) (k' : Nat), a.length ≤ 1000 ∧ b.length ≤ 1000 ∧ c.length ≤ 1000 ∧ k' ≤ t.length ∧ r = .tup [vint .i64 w, .agg [.pv (encSess a), .pv (encSess b), .pv (encSess c)]] ∧ H' = [dice t k']) := by
  refine acall_of tok mixed 54 rfl (fn := Tryd.f8) (c := Tryd.f8.body.getD .skip) (by kernel_rfl) (by kernel_rfl) (by kernel_rfl) rfl 1 rfl ?_
  repeat' (first | ((change vcFun _ _ _ _ _; refine call_weeks 0 rfl (by assumption) (Nat.zero_le _) ?_; intro w kq hkq)) | refine o1 ?_ | refine o2 ?_ | refine k1 ?_ | refine k2 ?_ | refine k3 ?_ | refine k4 ?_ | refine k6 ?_ | refine k7 ?_ | refine k8 ?_ | refine And.intro ?_ ?_ | exact trivial | refine o3 ?_ | refine o4 ?_ | refine o5 ?_ | refine o6 ?_ | refine k5 ?_ | (intro h; first | exact Bool.noConfusion h | exact nz _ h | exact nl h | (simp at h; done) | (simp at h; first | (exfalso; omega) | skip) | skip) | (change retOk _ _ _ _; refine ret_pure rfl trivial ?_) | exact (rfl : allOne _ = true) | (refine (?_ : (0 : Int) ≤ _); omega) | (refine (?_ : _ ≠ _); omega) | (refine (?_ : srcLen _ = rowsLen _); rfl) | exact Nat.le_of_ble_eq_true rfl | exact (by kernel_rfl : drawOk _ _ = true) | refine eqv_len_map ?_ | refine eqv_size ?_ | refine eqv_put (eqv_ck ?_) | refine eqv_zero ?_ | refine eqv_wrap (by omega) (by omega) ?_ | refine eqv_u64 (by omega) (by omega) ?_ | refine eqv_u8 (by omega) (by omega) ?_ | refine eqv_to _ (set_map rfl rfl) ?_ | refine ⟨_, _, (by first | rfl | assumption), at_map (by assumption), ?_⟩ | refine ⟨_, _, (by first | rfl | assumption), (by assumption), ?_⟩ | refine ⟨_, at_map (by assumption), (by decide), ?_⟩ | refine ⟨_, at_map (by assumption), ?_⟩ | (refine (?_ : _ ≤ 140737488355328); simp [rowsLen] <;> omega) | (refine (?_ : _ ≤ 9223372036854775807); simp [rowsLen] <;> omega) | (refine (?_ : _ = rowsLen _); simp [rowsLen] <;> omega) | refine eqv_to _ (app_row rfl) (eqv_to _ app_len ?_) | refine eqv_to _ (app_first rfl) (eqv_to 1 rfl ?_) | refine idx_sl (at_map (by assumption)) (by omega) ?_ | refine idx_ms _ (by first | rfl | assumption) (by first | assumption | omega) ?_ | (change vcFun _ _ _ _ _; refine call_next 0 rfl (by assumption) (by assumption) (by omega) (by omega) ?_; intro v kq hv1 hv2 hkq) | (change vcFun _ _ _ _ _; refine call_one2 0 rfl (by assumption) (by assumption) (by omega) (by omega) ?_; intro bq kq hkq) | (change vcFunD _ _ _ _ _; refine callD_next 0 rfl (by assumption) (by assumption) (by omega) (by omega) ?_; intro v kq hv1 hv2 hkq) | (change vcFunD _ _ _ _ _; refine callD_one2 0 rfl (by assumption) (by assumption) (by omega) (by omega) ?_; intro bq kq hkq) | fail)
  have hm := c_mod w 8 (by omega)
  obtain ⟨m1, m2⟩ := mod8 w
  refine loop_for (fun x : Nat × Nat × List Sess × List Sess × List Sess => [(0, .ptr 0 2 0 0), (2, vint .i64 0), (3, .ptr 1 3 0 0), (4, vint .i64 w), (5, .ptr 2 3 0 0), (6, vint .i64 x.1)]) (fun x => [dice t x.2.1, boxC 0 [] [] [], boxC x.1 x.2.2.1 x.2.2.2.1 x.2.2.2.2])
    (fun x => x.1 ≤ 3 ∧ x.2.1 ≤ t.length ∧ x.2.2.1.length ≤ 1000 ∧ x.2.2.2.1.length ≤ 1000 ∧ x.2.2.2.2.length ≤ 1000) (fun x => 3 - x.1) (0, kq, [], [], []) ⟨Nat.zero_le _, hkq, Nat.zero_le _, Nat.zero_le _, Nat.zero_le _⟩ ?_ ?_
  · exact back [0, 1, 2] rfl rfl ⟨rfl, rfl, rfl, trivial⟩ (by repeat' (first | exact trivial | exact rfl | exact ren_get rfl | refine kept_ob rfl ?_ | exact ⟨_, rfl, ALe.refl⟩ | refine And.intro ?_ ?_))
  rintro ⟨i, kd, a, b, c⟩ ⟨d1, d2, d3, d4, d5⟩
  dsimp only at d1 d2 d3 d4 d5 ⊢
  rcases i with _ | _ | _ | _ | i
  · have fin : ∀ {Γ : Slots} {H : Heap} {l : List Sess} {kq : Nat}, l.length ≤ 1000 → kq ≤ t.length → Ghost 54 1 Γ H [(0, .ptr 0 2 0 0), (2, vint .i64 0), (3, .ptr 1 3 0 0), (4, vint .i64 w), (5, .ptr 2 3 0 0), (6, vint .i64 (1 : Nat))] [dice t kq, boxC 0 [] [] [], boxC 1 l b c] →
        ∃ x : Nat × Nat × List Sess × List Sess × List Sess, (x.1 ≤ 3 ∧ x.2.1 ≤ t.length ∧ x.2.2.1.length ≤ 1000 ∧ x.2.2.2.1.length ≤ 1000 ∧ x.2.2.2.2.length ≤ 1000) ∧ 3 - x.1 < 3 - 0 ∧ Ghost 54 1 Γ H [(0, .ptr 0 2 0 0), (2, vint .i64 0), (3, .ptr 1 3 0 0), (4, vint .i64 w), (5, .ptr 2 3 0 0), (6, vint .i64 x.1)] [dice t x.2.1, boxC 0 [] [] [], boxC x.1 x.2.2.1 x.2.2.2.1 x.2.2.2.2] := fun {Γ H l kq} h1 h2 h3 =>
      ⟨(1, kq, l, b, c), ⟨Nat.le_of_ble_eq_true rfl, h2, h1, d4, d5⟩, Nat.le_of_ble_eq_true rfl, h3⟩
    repeat' (first | ((refine ⟨_, rfl, Nat.le_of_ble_eq_true rfl, ?_⟩)) | ((change vcFun _ _ _ _ _; refine call_seq 0 (by omega) rfl (by assumption) (by assumption) ?_; intro l kl hl hkl)) | ((change vcFun _ _ _ _ _; refine call_rnorm (by omega) ?_)) | ((change vcFunD _ _ _ _ _; refine callD_one2 0 rfl (by assumption) (by assumption) (by omega) (by omega) ?_; intro bb kb hkb)) | ((change vcFun _ _ _ _ _; refine call_one2 0 rfl (by assumption) (by assumption) (by omega) (by omega) ?_; intro bb kb hkb)) | ((change vcFun _ _ _ _ _; refine call_oddS 0 rfl (by assumption) (by assumption) (by first | omega | exact Nat.le_trans (norm_len (by assumption)) (by omega)) ?_; intro lo ko hlo hko)) | refine o1 ?_ | refine o2 ?_ | refine k1 ?_ | refine k2 ?_ | refine k3 ?_ | refine k4 ?_ | refine k6 ?_ | refine k7 ?_ | refine k8 ?_ | refine And.intro ?_ ?_ | exact trivial | refine o3 ?_ | refine o4 ?_ | refine o5 ?_ | refine o6 ?_ | refine k5 ?_ | (intro h; first | exact Bool.noConfusion h | exact nz _ h | exact nl h | (simp at h; done) | (simp at h; first | (exfalso; omega) | skip) | skip) | (change retOk _ _ _ _; refine ret_pure rfl trivial ?_) | exact (rfl : allOne _ = true) | (refine (?_ : (0 : Int) ≤ _); omega) | (refine (?_ : _ ≠ _); omega) | (refine (?_ : srcLen _ = rowsLen _); rfl) | exact Nat.le_of_ble_eq_true rfl | exact (by kernel_rfl : drawOk _ _ = true) | refine eqv_len_map ?_ | refine eqv_size ?_ | refine eqv_put (eqv_ck ?_) | refine eqv_zero ?_ | refine eqv_wrap (by omega) (by omega) ?_ | refine eqv_u64 (by omega) (by omega) ?_ | refine eqv_u8 (by omega) (by omega) ?_ | refine eqv_to _ (set_map rfl rfl) ?_ | refine ⟨_, _, (by first | rfl | assumption), at_map (by assumption), ?_⟩ | refine ⟨_, _, (by first | rfl | assumption), (by assumption), ?_⟩ | refine ⟨_, at_map (by assumption), (by decide), ?_⟩ | refine ⟨_, at_map (by assumption), ?_⟩ | (refine (?_ : _ ≤ 140737488355328); simp [rowsLen] <;> omega) | (refine (?_ : _ ≤ 9223372036854775807); simp [rowsLen] <;> omega) | (refine (?_ : _ = rowsLen _); simp [rowsLen] <;> omega) | refine eqv_to _ (app_row rfl) (eqv_to _ app_len ?_) | refine eqv_to _ (app_first rfl) (eqv_to 1 rfl ?_) | refine idx_sl (at_map (by assumption)) (by omega) ?_ | refine idx_ms _ (by first | rfl | assumption) (by first | assumption | omega) ?_ | (change vcFun _ _ _ _ _; refine call_eq rfl (by repeat' (first | trivial | refine And.intro ?_ ?_ | (show 0 + _ ≤ List.length _; simp))) ALeL.refl (hm) rfl ?_) | fail)
    all_goals try (exfalso; omega)
    all_goals exact fin (by first | omega | exact Nat.le_trans (norm_len (by assumption)) (by omega)) (by assumption) (back [0, 1, 2] rfl rfl ⟨rfl, rfl, rfl, trivial⟩ (by repeat' (first | exact trivial | exact rfl | exact ren_get rfl | refine kept_ob rfl ?_ | exact ⟨_, rfl, ALe.refl⟩ | (refine slot_eq rfl (congrArg (vint .i64) ?_); omega) | refine And.intro ?_ ?_)))
  · have fin : ∀ {Γ : Slots} {H : Heap} {l : List Sess} {kq : Nat}, l.length ≤ 1000 → kq ≤ t.length → Ghost 54 1 Γ H [(0, .ptr 0 2 0 0), (2, vint .i64 0), (3, .ptr 1 3 0 0), (4, vint .i64 w), (5, .ptr 2 3 0 0), (6, vint .i64 (2 : Nat))] [dice t kq, boxC 0 [] [] [], boxC 2 a l c] →
        ∃ x : Nat × Nat × List Sess × List Sess × List Sess, (x.1 ≤ 3 ∧ x.2.1 ≤ t.length ∧ x.2.2.1.length ≤ 1000 ∧ x.2.2.2.1.length ≤ 1000 ∧ x.2.2.2.2.length ≤ 1000) ∧ 3 - x.1 < 3 - 1 ∧ Ghost 54 1 Γ H [(0, .ptr 0 2 0 0), (2, vint .i64 0), (3, .ptr 1 3 0 0), (4, vint .i64 w), (5, .ptr 2 3 0 0), (6, vint .i64 x.1)] [dice t x.2.1, boxC 0 [] [] [], boxC x.1 x.2.2.1 x.2.2.2.1 x.2.2.2.2] := fun {Γ H l kq} h1 h2 h3 =>
      ⟨(2, kq, a, l, c), ⟨Nat.le_of_ble_eq_true rfl, h2, d3, h1, d5⟩, Nat.le_of_ble_eq_true rfl, h3⟩
    repeat' (first | ((refine ⟨_, rfl, Nat.le_of_ble_eq_true rfl, ?_⟩)) | ((change vcFun _ _ _ _ _; refine call_seq 0 (by omega) rfl (by assumption) (by assumption) ?_; intro l kl hl hkl)) | ((change vcFun _ _ _ _ _; refine call_rnorm (by omega) ?_)) | ((change vcFunD _ _ _ _ _; refine callD_one2 0 rfl (by assumption) (by assumption) (by omega) (by omega) ?_; intro bb kb hkb)) | ((change vcFun _ _ _ _ _; refine call_one2 0 rfl (by assumption) (by assumption) (by omega) (by omega) ?_; intro bb kb hkb)) | ((change vcFun _ _ _ _ _; refine call_oddS 0 rfl (by assumption) (by assumption) (by first | omega | exact Nat.le_trans (norm_len (by assumption)) (by omega)) ?_; intro lo ko hlo hko)) | refine o1 ?_ | refine o2 ?_ | refine k1 ?_ | refine k2 ?_ | refine k3 ?_ | refine k4 ?_ | refine k6 ?_ | refine k7 ?_ | refine k8 ?_ | refine And.intro ?_ ?_ | exact trivial | refine o3 ?_ | refine o4 ?_ | refine o5 ?_ | refine o6 ?_ | refine k5 ?_ | (intro h; first | exact Bool.noConfusion h | exact nz _ h | exact nl h | (simp at h; done) | (simp at h; first | (exfalso; omega) | skip) | skip) | (change retOk _ _ _ _; refine ret_pure rfl trivial ?_) | exact (rfl : allOne _ = true) | (refine (?_ : (0 : Int) ≤ _); omega) | (refine (?_ : _ ≠ _); omega) | (refine (?_ : srcLen _ = rowsLen _); rfl) | exact Nat.le_of_ble_eq_true rfl | exact (by kernel_rfl : drawOk _ _ = true) | refine eqv_len_map ?_ | refine eqv_size ?_ | refine eqv_put (eqv_ck ?_) | refine eqv_zero ?_ | refine eqv_wrap (by omega) (by omega) ?_ | refine eqv_u64 (by omega) (by omega) ?_ | refine eqv_u8 (by omega) (by omega) ?_ | refine eqv_to _ (set_map rfl rfl) ?_ | refine ⟨_, _, (by first | rfl | assumption), at_map (by assumption), ?_⟩ | refine ⟨_, _, (by first | rfl | assumption), (by assumption), ?_⟩ | refine ⟨_, at_map (by assumption), (by decide), ?_⟩ | refine ⟨_, at_map (by assumption), ?_⟩ | (refine (?_ : _ ≤ 140737488355328); simp [rowsLen] <;> omega) | (refine (?_ : _ ≤ 9223372036854775807); simp [rowsLen] <;> omega) | (refine (?_ : _ = rowsLen _); simp [rowsLen] <;> omega) | refine eqv_to _ (app_row rfl) (eqv_to _ app_len ?_) | refine eqv_to _ (app_first rfl) (eqv_to 1 rfl ?_) | refine idx_sl (at_map (by assumption)) (by omega) ?_ | refine idx_ms _ (by first | rfl | assumption) (by first | assumption | omega) ?_ | (change vcFun _ _ _ _ _; refine call_eq rfl (by repeat' (first | trivial | refine And.intro ?_ ?_ | (show 0 + _ ≤ List.length _; simp))) ALeL.refl (hm) rfl ?_) | fail)
    all_goals try (exfalso; omega)
    all_goals exact fin (by first | omega | exact Nat.le_trans (norm_len (by assumption)) (by omega)) (by assumption) (back [0, 1, 2] rfl rfl ⟨rfl, rfl, rfl, trivial⟩ (by repeat' (first | exact trivial | exact rfl | exact ren_get rfl | refine kept_ob rfl ?_ | exact ⟨_, rfl, ALe.refl⟩ | (refine slot_eq rfl (congrArg (vint .i64) ?_); omega) | refine And.intro ?_ ?_)))
  · have fin : ∀ {Γ : Slots} {H : Heap} {l : List Sess} {kq : Nat}, l.length ≤ 1000 → kq ≤ t.length → Ghost 54 1 Γ H [(0, .ptr 0 2 0 0), (2, vint .i64 0), (3, .ptr 1 3 0 0), (4, vint .i64 w), (5, .ptr 2 3 0 0), (6, vint .i64 (3 : Nat))] [dice t kq, boxC 0 [] [] [], boxC 3 a b l] →
        ∃ x : Nat × Nat × List Sess × List Sess × List Sess, (x.1 ≤ 3 ∧ x.2.1 ≤ t.length ∧ x.2.2.1.length ≤ 1000 ∧ x.2.2.2.1.length ≤ 1000 ∧ x.2.2.2.2.length ≤ 1000) ∧ 3 - x.1 < 3 - 2 ∧ Ghost 54 1 Γ H [(0, .ptr 0 2 0 0), (2, vint .i64 0), (3, .ptr 1 3 0 0), (4, vint .i64 w), (5, .ptr 2 3 0 0), (6, vint .i64 x.1)] [dice t x.2.1, boxC 0 [] [] [], boxC x.1 x.2.2.1 x.2.2.2.1 x.2.2.2.2] := fun {Γ H l kq} h1 h2 h3 =>
      ⟨(3, kq, a, b, l), ⟨Nat.le_of_ble_eq_true rfl, h2, d3, d4, h1⟩, Nat.le_of_ble_eq_true rfl, h3⟩
    repeat' (first | ((refine ⟨_, rfl, Nat.le_of_ble_eq_true rfl, ?_⟩)) | ((change vcFun _ _ _ _ _; refine call_seq 0 (by omega) rfl (by assumption) (by assumption) ?_; intro l kl hl hkl)) | ((change vcFun _ _ _ _ _; refine call_rnorm (by omega) ?_)) | ((change vcFunD _ _ _ _ _; refine callD_one2 0 rfl (by assumption) (by assumption) (by omega) (by omega) ?_; intro bb kb hkb)) | ((change vcFun _ _ _ _ _; refine call_one2 0 rfl (by assumption) (by assumption) (by omega) (by omega) ?_; intro bb kb hkb)) | ((change vcFun _ _ _ _ _; refine call_oddS 0 rfl (by assumption) (by assumption) (by first | omega | exact Nat.le_trans (norm_len (by assumption)) (by omega)) ?_; intro lo ko hlo hko)) | refine o1 ?_ | refine o2 ?_ | refine k1 ?_ | refine k2 ?_ | refine k3 ?_ | refine k4 ?_ | refine k6 ?_ | refine k7 ?_ | refine k8 ?_ | refine And.intro ?_ ?_ | exact trivial | refine o3 ?_ | refine o4 ?_ | refine o5 ?_ | refine o6 ?_ | refine k5 ?_ | (intro h; first | exact Bool.noConfusion h | exact nz _ h | exact nl h | (simp at h; done) | (simp at h; first | (exfalso; omega) | skip) | skip) | (change retOk _ _ _ _; refine ret_pure rfl trivial ?_) | exact (rfl : allOne _ = true) | (refine (?_ : (0 : Int) ≤ _); omega) | (refine (?_ : _ ≠ _); omega) | (refine (?_ : srcLen _ = rowsLen _); rfl) | exact Nat.le_of_ble_eq_true rfl | exact (by kernel_rfl : drawOk _ _ = true) | refine eqv_len_map ?_ | refine eqv_size ?_ | refine eqv_put (eqv_ck ?_) | refine eqv_zero ?_ | refine eqv_wrap (by omega) (by omega) ?_ | refine eqv_u64 (by omega) (by omega) ?_ | refine eqv_u8 (by omega) (by omega) ?_ | refine eqv_to _ (set_map rfl rfl) ?_ | refine ⟨_, _, (by first | rfl | assumption), at_map (by assumption), ?_⟩ | refine ⟨_, _, (by first | rfl | assumption), (by assumption), ?_⟩ | refine ⟨_, at_map (by assumption), (by decide), ?_⟩ | refine ⟨_, at_map (by assumption), ?_⟩ | (refine (?_ : _ ≤ 140737488355328); simp [rowsLen] <;> omega) | (refine (?_ : _ ≤ 9223372036854775807); simp [rowsLen] <;> omega) | (refine (?_ : _ = rowsLen _); simp [rowsLen] <;> omega) | refine eqv_to _ (app_row rfl) (eqv_to _ app_len ?_) | refine eqv_to _ (app_first rfl) (eqv_to 1 rfl ?_) | refine idx_sl (at_map (by assumption)) (by omega) ?_ | refine idx_ms _ (by first | rfl | assumption) (by first | assumption | omega) ?_ | (change vcFun _ _ _ _ _; refine call_eq rfl (by repeat' (first | trivial | refine And.intro ?_ ?_ | (show 0 + _ ≤ List.length _; simp))) ALeL.refl (hm) rfl ?_) | fail)
    all_goals try (exfalso; omega)
    all_goals exact fin (by first | omega | exact Nat.le_trans (norm_len (by assumption)) (by omega)) (by assumption) (back [0, 1, 2] rfl rfl ⟨rfl, rfl, rfl, trivial⟩ (by repeat' (first | exact trivial | exact rfl | exact ren_get rfl | refine kept_ob rfl ?_ | exact ⟨_, rfl, ALe.refl⟩ | (refine slot_eq rfl (congrArg (vint .i64) ?_); omega) | refine And.intro ?_ ?_)))
  · repeat' (first | refine o1 ?_ | refine o2 ?_ | refine k1 ?_ | refine k2 ?_ | refine k3 ?_ | refine k4 ?_ | refine k6 ?_ | refine k7 ?_ | refine k8 ?_ | refine And.intro ?_ ?_ | exact trivial | refine o3 ?_ | refine o4 ?_ | refine o5 ?_ | refine o6 ?_ | refine k5 ?_ | (intro h; first | exact Bool.noConfusion h | exact nz _ h | exact nl h | (simp at h; done) | (simp at h; first | (exfalso; omega) | skip) | skip) | (change retOk _ _ _ _; refine ret_pure rfl trivial ?_) | exact (rfl : allOne _ = true) | (refine (?_ : (0 : Int) ≤ _); omega) | (refine (?_ : _ ≠ _); omega) | (refine (?_ : srcLen _ = rowsLen _); rfl) | exact Nat.le_of_ble_eq_true rfl | exact (by kernel_rfl : drawOk _ _ = true) | refine eqv_len_map ?_ | refine eqv_size ?_ | refine eqv_put (eqv_ck ?_) | refine eqv_zero ?_ | refine eqv_wrap (by omega) (by omega) ?_ | refine eqv_u64 (by omega) (by omega) ?_ | refine eqv_u8 (by omega) (by omega) ?_ | refine eqv_to _ (set_map rfl rfl) ?_ | refine ⟨_, _, (by first | rfl | assumption), at_map (by assumption), ?_⟩ | refine ⟨_, _, (by first | rfl | assumption), (by assumption), ?_⟩ | refine ⟨_, at_map (by assumption), (by decide), ?_⟩ | refine ⟨_, at_map (by assumption), ?_⟩ | (refine (?_ : _ ≤ 140737488355328); simp [rowsLen] <;> omega) | (refine (?_ : _ ≤ 9223372036854775807); simp [rowsLen] <;> omega) | (refine (?_ : _ = rowsLen _); simp [rowsLen] <;> omega) | refine eqv_to _ (app_row rfl) (eqv_to _ app_len ?_) | refine eqv_to _ (app_first rfl) (eqv_to 1 rfl ?_) | refine idx_sl (at_map (by assumption)) (by omega) ?_ | refine idx_ms _ (by first | rfl | assumption) (by first | assumption | omega) ?_ | fail)
    all_goals try (exfalso; omega)
    exact ret_obj [0] [dice t kd] rfl rfl ⟨rfl, trivial⟩ (r' := .tup [vint .i64 w, .agg [.pv (encSess a), .pv (encSess b), .pv (encSess c)]]) rfl ⟨w, a, b, c, kd, d3, d4, d5, d2, rfl, rfl⟩
  · exfalso; omega
theorem call_lists {t : List Int} {H : Heap} {K : AV → Heap → Prop} (i : Nat) (hi : H[i]? = some (dice t 0)) (ht : t.length ≤ 400)
    (hK : ∀ (w : Int) (a b c : List Sess) k2, a.length ≤ 1000 → b.length ≤ 1000 → c.length ≤ 1000 → k2 ≤ t.length → K (.tup [vint .i64 w, .agg [.pv (encSess a), .pv (encSess b), .pv (encSess c)]]) (H.set i (dice t k2))) : vcFun Tryd.prog 8 [.ptr i 2 0 0] H K := by
  refine call_one (i := i) hi (fun _ _ => rfl) [.ptr 0 2 0 0] rfl (c_lists t ht) ?_
  rintro r H' ⟨w, a, b, c, k', h1, h2, h3, h4, rfl, rfl⟩
  exact ⟨_, rfl, fun _ _ => rfl, fun _ _ => rfl, hK w a b c k' h1 h2 h3 h4⟩
end Go.Proofs.YtbcacaodfpgflaaDoor.Cw

/-
  Contracts: classes, Diff, by the program.
-/
namespace Go.Proofs.YtbcacaodfpgflaaDoor.Cw
open Go Go.Cw Go.Proofs
set_option linter.unusedVariables false
set_option maxRecDepth 100000
set_option maxHeartbeats 8000000

def encLs (L : List (List Sess)) : PV := .sl 1 (L.map fun l => [encSess l])
theorem sortS_len (l : List Str) : (sortS l).length = l.length := (sortS_perm l).length_eq
theorem sortS_ne {l : List Str} (h : l ≠ []) : sortS l ≠ [] := fun e => h (List.eq_nil_of_length_eq_zero (by rw [← sortS_len, e]; rfl))
theorem c_sort2 (ss : List ByteArray) (hne : ss ≠ []) (hl : ss.length ≤ 1000000) :
    ACall Tryd.prog 60 [.ms 0 1 0 (sortS ss).length] [some ⟨9, 1, false, .p (ss.map strRow)⟩] fun r H' => r = .tup [] ∧ H' = [some ⟨9, 1, false, .p ((sortS ss).map strRow)⟩] := by
  rw [sortS_len]; exact c_sort ss hne (by omega)
theorem c_classes0 (c : List Chg) (L : List (List Sess)) (hc : c.length ≤ 1000) (hL : L.flatten.length ≤ 100000) (hn : L.length ≤ 100) : PCall Tryd.prog 41 [.pv (encChgs c), .pv (encLs L)] (fun r => Leq r (.pv (.sl 1 ((clsOf (c.map Chg.cls ++ L.flatten.map Sess.cls)).map strRow)))) := by
  refine acall_of tok mixed 47 rfl (fn := Tryd.f41) (c := Tryd.f41.body.getD .skip) (by kernel_rfl) (by kernel_rfl) (by kernel_rfl) rfl 0 rfl ?_
  repeat' (first | refine o1 ?_ | refine o2 ?_ | refine k1 ?_ | refine k2 ?_ | refine k3 ?_ | refine k4 ?_ | refine k6 ?_ | refine k7 ?_ | refine k8 ?_ | refine And.intro ?_ ?_ | exact trivial | refine o3 ?_ | refine o4 ?_ | refine o5 ?_ | refine o6 ?_ | refine k5 ?_ | (intro h; first | exact Bool.noConfusion h | exact nz _ h | exact nl h | (simp at h; done) | (simp at h; first | (exfalso; omega) | skip) | skip) | (change retOk _ _ _ _; refine ret_pure rfl trivial ?_) | exact (rfl : allOne _ = true) | (refine (?_ : (0 : Int) ≤ _); omega) | (refine (?_ : _ ≠ _); omega) | (refine (?_ : srcLen _ = rowsLen _); rfl) | exact Nat.le_of_ble_eq_true rfl | exact (by kernel_rfl : drawOk _ _ = true) | refine eqv_len_map ?_ | refine eqv_size ?_ | refine eqv_put (eqv_ck ?_) | refine eqv_zero ?_ | refine eqv_wrap (by omega) (by omega) ?_ | refine eqv_u64 (by omega) (by omega) ?_ | refine eqv_u8 (by omega) (by omega) ?_ | refine eqv_to _ (set_map rfl rfl) ?_ | refine ⟨_, _, (by first | rfl | assumption), at_map (by assumption), ?_⟩ | refine ⟨_, _, (by first | rfl | assumption), (by assumption), ?_⟩ | refine ⟨_, at_map (by assumption), (by decide), ?_⟩ | refine ⟨_, at_map (by assumption), ?_⟩ | (refine (?_ : _ ≤ 140737488355328); simp [rowsLen] <;> omega) | (refine (?_ : _ ≤ 9223372036854775807); simp [rowsLen] <;> omega) | (refine (?_ : _ = rowsLen _); simp [rowsLen] <;> omega) | refine eqv_to _ (app_row rfl) (eqv_to _ app_len ?_) | refine eqv_to _ (app_first rfl) (eqv_to 1 rfl ?_) | refine idx_sl (at_map (by assumption)) (by omega) ?_ | refine idx_ms _ (by first | rfl | assumption) (by first | assumption | omega) ?_ | fail)
  refine loop_for (fun i : Nat => [(1, .pv (encLs L)), (5, slP 0 1 (((c.take i).map Chg.cls).map strRow)), (12, .pv (encChgs c)), (13, vint .i64 c.length), (14, vint .i64 i)]) (fun i => [obP 9 1 (((c.take i).map Chg.cls).map strRow)]) (fun i => i ≤ c.length) (fun i => c.length - i) 0 (Nat.zero_le _) ?_ ?_
  · exact back [0] rfl rfl (by repeat' (first | exact trivial | exact rfl | exact ren_get rfl | refine kept_ob rfl ?_ | exact ⟨_, rfl, ALe.refl⟩ | refine And.intro ?_ ?_)) (by repeat' (first | exact trivial | exact rfl | exact ren_get rfl | refine kept_ob rfl ?_ | exact ⟨_, rfl, ALe.refl⟩ | refine And.intro ?_ ?_))
  intro i hi
  rcases Nat.lt_or_ge i c.length with hlt | hge
  · obtain ⟨x, hx⟩ := getE hlt
    have htk := take_snoc hx
    have htl : (c.take i).length ≤ i := List.length_take_le ..
    generalize c.take i = A at *
    repeat' (first | (refine fv_sl ?_) | (refine fh_ob ?_) | ((refine o_app rfl rfl rfl rfl rfl rfl rfl rfl rfl rfl rfl (by simp; omega) (by simp; omega) ?_)) | refine o1 ?_ | refine o2 ?_ | refine k1 ?_ | refine k2 ?_ | refine k3 ?_ | refine k4 ?_ | refine k6 ?_ | refine k7 ?_ | refine k8 ?_ | refine And.intro ?_ ?_ | exact trivial | refine o3 ?_ | refine o4 ?_ | refine o5 ?_ | refine o6 ?_ | refine k5 ?_ | (intro h; first | exact Bool.noConfusion h | exact nz _ h | exact nl h | (simp at h; done) | (simp at h; first | (exfalso; omega) | skip) | skip) | (change retOk _ _ _ _; refine ret_pure rfl trivial ?_) | exact (rfl : allOne _ = true) | (refine (?_ : (0 : Int) ≤ _); omega) | (refine (?_ : _ ≠ _); omega) | (refine (?_ : srcLen _ = rowsLen _); rfl) | exact Nat.le_of_ble_eq_true rfl | exact (by kernel_rfl : drawOk _ _ = true) | refine eqv_len_map ?_ | refine eqv_size ?_ | refine eqv_put (eqv_ck ?_) | refine eqv_zero ?_ | refine eqv_wrap (by omega) (by omega) ?_ | refine eqv_u64 (by omega) (by omega) ?_ | refine eqv_u8 (by omega) (by omega) ?_ | refine eqv_to _ (set_map rfl rfl) ?_ | refine ⟨_, _, (by first | rfl | assumption), at_map (by assumption), ?_⟩ | refine ⟨_, _, (by first | rfl | assumption), (by assumption), ?_⟩ | refine ⟨_, at_map (by assumption), (by decide), ?_⟩ | refine ⟨_, at_map (by assumption), ?_⟩ | (refine (?_ : _ ≤ 140737488355328); simp [rowsLen] <;> omega) | (refine (?_ : _ ≤ 9223372036854775807); simp [rowsLen] <;> omega) | (refine (?_ : _ = rowsLen _); simp [rowsLen] <;> omega) | refine eqv_to _ (app_row rfl) (eqv_to _ app_len ?_) | refine eqv_to _ (app_first rfl) (eqv_to 1 rfl ?_) | refine idx_sl (at_map (by assumption)) (by omega) ?_ | refine idx_ms _ (by first | rfl | assumption) (by first | assumption | omega) ?_ | fail)
    refine ⟨i + 1, hlt, by omega, ?_⟩
    rw [htk, map_snoc, map_snoc, sl_app, ob_app]
    exact back [3] rfl rfl (by repeat' (first | exact trivial | exact rfl | exact ren_get rfl | refine kept_ob rfl ?_ | exact ⟨_, rfl, ALe.refl⟩ | refine And.intro ?_ ?_)) (by repeat' (first | exact trivial | exact rfl | exact ren_get rfl | refine kept_ob rfl ?_ | exact ⟨_, rfl, ALe.refl⟩ | (refine slot_eq rfl (congrArg (vint .i64) ?_); omega) | refine And.intro ?_ ?_))
  · obtain rfl : i = c.length := by omega
    rw [List.take_length]
    repeat' (first | (refine fv_sl ?_) | (refine fh_ob ?_) | refine o1 ?_ | refine o2 ?_ | refine k1 ?_ | refine k2 ?_ | refine k3 ?_ | refine k4 ?_ | refine k6 ?_ | refine k7 ?_ | refine k8 ?_ | refine And.intro ?_ ?_ | exact trivial | refine o3 ?_ | refine o4 ?_ | refine o5 ?_ | refine o6 ?_ | refine k5 ?_ | (intro h; first | exact Bool.noConfusion h | exact nz _ h | exact nl h | (simp at h; done) | (simp at h; first | (exfalso; omega) | skip) | skip) | (change retOk _ _ _ _; refine ret_pure rfl trivial ?_) | exact (rfl : allOne _ = true) | (refine (?_ : (0 : Int) ≤ _); omega) | (refine (?_ : _ ≠ _); omega) | (refine (?_ : srcLen _ = rowsLen _); rfl) | exact Nat.le_of_ble_eq_true rfl | exact (by kernel_rfl : drawOk _ _ = true) | refine eqv_len_map ?_ | refine eqv_size ?_ | refine eqv_put (eqv_ck ?_) | refine eqv_zero ?_ | refine eqv_wrap (by omega) (by omega) ?_ | refine eqv_u64 (by omega) (by omega) ?_ | refine eqv_u8 (by omega) (by omega) ?_ | refine eqv_to _ (set_map rfl rfl) ?_ | refine ⟨_, _, (by first | rfl | assumption), at_map (by assumption), ?_⟩ | refine ⟨_, _, (by first | rfl | assumption), (by assumption), ?_⟩ | refine ⟨_, at_map (by assumption), (by decide), ?_⟩ | refine ⟨_, at_map (by assumption), ?_⟩ | (refine (?_ : _ ≤ 140737488355328); simp [rowsLen] <;> omega) | (refine (?_ : _ ≤ 9223372036854775807); simp [rowsLen] <;> omega) | (refine (?_ : _ = rowsLen _); simp [rowsLen] <;> omega) | refine eqv_to _ (app_row rfl) (eqv_to _ app_len ?_) | refine eqv_to _ (app_first rfl) (eqv_to 1 rfl ?_) | refine idx_sl (at_map (by assumption)) (by omega) ?_ | refine idx_ms _ (by first | rfl | assumption) (by first | assumption | omega) ?_ | fail)
    have hcl : (c.map Chg.cls).length ≤ 1000 := by rw [List.length_map]; exact hc
    generalize c.map Chg.cls = C at *
    refine loop_for (fun i : Nat => [(5, slP 0 1 ((C ++ (L.take i).flatten.map Sess.cls).map strRow)), (24, .pv (encLs L)), (25, vint .i64 L.length), (26, vint .i64 i)]) (fun i => [obP 9 1 ((C ++ (L.take i).flatten.map Sess.cls).map strRow)]) (fun i => i ≤ L.length) (fun i => L.length - i) 0 (Nat.zero_le _) ?_ ?_
    · show Ghost _ _ _ _ [(5, slP 0 1 ((C ++ []).map strRow)), _, _, _] [obP 9 1 ((C ++ []).map strRow)]
      rw [List.append_nil]
      exact back [0] rfl rfl (by repeat' (first | exact trivial | exact rfl | exact ren_get rfl | refine kept_ob rfl ?_ | exact ⟨_, rfl, ALe.refl⟩ | refine And.intro ?_ ?_)) (by repeat' (first | exact trivial | exact rfl | exact ren_get rfl | refine kept_ob rfl ?_ | exact ⟨_, rfl, ALe.refl⟩ | refine And.intro ?_ ?_))
    intro i hi
    rcases Nat.lt_or_ge i L.length with hlt | hge
    · obtain ⟨l, hl⟩ := getE hlt
      have hpr : (L.map fun l => [encSess l])[i]? = some [encSess l] := by rw [List.getElem?_map, hl]; rfl
      have htk : (L.take (i + 1)).flatten = (L.take i).flatten ++ l := by rw [take_snoc hl, List.flatten_append]; simp
      have htl : (L.take (i + 1)).flatten.length ≤ L.flatten.length := by
        conv => rhs; rw [← List.take_append_drop (i + 1) L, List.flatten_append, List.length_append]
        omega
      rw [htk, List.length_append] at htl
      generalize (L.take i).flatten = A at *
      repeat' (first | (refine fv_sl ?_) | (refine fh_ob ?_) | (refine ⟨_, hpr, ?_⟩) | (refine ⟨i, rfl, hlt, ?_⟩) | refine o1 ?_ | refine o2 ?_ | refine k1 ?_ | refine k2 ?_ | refine k3 ?_ | refine k4 ?_ | refine k6 ?_ | refine k7 ?_ | refine k8 ?_ | refine And.intro ?_ ?_ | exact trivial | refine o3 ?_ | refine o4 ?_ | refine o5 ?_ | refine o6 ?_ | refine k5 ?_ | (intro h; first | exact Bool.noConfusion h | exact nz _ h | exact nl h | (simp at h; done) | (simp at h; first | (exfalso; omega) | skip) | skip) | (change retOk _ _ _ _; refine ret_pure rfl trivial ?_) | exact (rfl : allOne _ = true) | (refine (?_ : (0 : Int) ≤ _); omega) | (refine (?_ : _ ≠ _); omega) | (refine (?_ : srcLen _ = rowsLen _); rfl) | exact Nat.le_of_ble_eq_true rfl | exact (by kernel_rfl : drawOk _ _ = true) | refine eqv_len_map ?_ | refine eqv_size ?_ | refine eqv_put (eqv_ck ?_) | refine eqv_zero ?_ | refine eqv_wrap (by omega) (by omega) ?_ | refine eqv_u64 (by omega) (by omega) ?_ | refine eqv_u8 (by omega) (by omega) ?_ | refine eqv_to _ (set_map rfl rfl) ?_ | refine ⟨_, _, (by first | rfl | assumption), at_map (by assumption), ?_⟩ | refine ⟨_, _, (by first | rfl | assumption), (by assumption), ?_⟩ | refine ⟨_, at_map (by assumption), (by decide), ?_⟩ | refine ⟨_, at_map (by assumption), ?_⟩ | (refine (?_ : _ ≤ 140737488355328); simp [rowsLen] <;> omega) | (refine (?_ : _ ≤ 9223372036854775807); simp [rowsLen] <;> omega) | (refine (?_ : _ = rowsLen _); simp [rowsLen] <;> omega) | refine eqv_to _ (app_row rfl) (eqv_to _ app_len ?_) | refine eqv_to _ (app_first rfl) (eqv_to 1 rfl ?_) | refine idx_sl (at_map (by assumption)) (by omega) ?_ | refine idx_ms _ (by first | rfl | assumption) (by first | assumption | omega) ?_ | fail)
      refine loop_for (fun k : Nat => [(5, slP 0 1 ((C ++ (A ++ l.take k).map Sess.cls).map strRow)), (24, .pv (encLs L)), (25, vint .i64 L.length), (26, vint .i64 i), (30, .pv (encSess l)), (31, vint .i64 l.length), (32, vint .i64 k)]) (fun k => [obP 9 1 ((C ++ (A ++ l.take k).map Sess.cls).map strRow)]) (fun k => k ≤ l.length) (fun k => l.length - k) 0 (Nat.zero_le _) ?_ ?_
      · show Ghost _ _ _ _ [(5, slP 0 1 ((C ++ (A ++ []).map Sess.cls).map strRow)), _, _, _, _, _, _] [obP 9 1 ((C ++ (A ++ []).map Sess.cls).map strRow)]
        rw [List.append_nil]
        exact back [0] rfl rfl (by repeat' (first | exact trivial | exact rfl | exact ren_get rfl | refine kept_ob rfl ?_ | exact ⟨_, rfl, ALe.refl⟩ | refine And.intro ?_ ?_)) (by repeat' (first | exact trivial | exact rfl | exact ren_get rfl | refine kept_ob rfl ?_ | exact ⟨_, rfl, ALe.refl⟩ | refine And.intro ?_ ?_))
      intro k hk
      rcases Nat.lt_or_ge k l.length with hkl | hkg
      · obtain ⟨x, hx⟩ := getE hkl
        have htk2 : C ++ (A ++ l.take (k + 1)).map Sess.cls = (C ++ (A ++ l.take k).map Sess.cls) ++ [x.cls] := by rw [take_snoc hx]; simp
        have hln : (C ++ (A ++ l.take k).map Sess.cls).length ≤ 101000 := by simp; omega
        generalize C ++ (A ++ l.take k).map Sess.cls = B at *
        repeat' (first | (refine fv_sl ?_) | (refine fh_ob ?_) | ((refine o_app rfl rfl rfl rfl rfl rfl rfl rfl rfl rfl rfl (by simp; omega) (by simp; omega) ?_)) | refine o1 ?_ | refine o2 ?_ | refine k1 ?_ | refine k2 ?_ | refine k3 ?_ | refine k4 ?_ | refine k6 ?_ | refine k7 ?_ | refine k8 ?_ | refine And.intro ?_ ?_ | exact trivial | refine o3 ?_ | refine o4 ?_ | refine o5 ?_ | refine o6 ?_ | refine k5 ?_ | (intro h; first | exact Bool.noConfusion h | exact nz _ h | exact nl h | (simp at h; done) | (simp at h; first | (exfalso; omega) | skip) | skip) | (change retOk _ _ _ _; refine ret_pure rfl trivial ?_) | exact (rfl : allOne _ = true) | (refine (?_ : (0 : Int) ≤ _); omega) | (refine (?_ : _ ≠ _); omega) | (refine (?_ : srcLen _ = rowsLen _); rfl) | exact Nat.le_of_ble_eq_true rfl | exact (by kernel_rfl : drawOk _ _ = true) | refine eqv_len_map ?_ | refine eqv_size ?_ | refine eqv_put (eqv_ck ?_) | refine eqv_zero ?_ | refine eqv_wrap (by omega) (by omega) ?_ | refine eqv_u64 (by omega) (by omega) ?_ | refine eqv_u8 (by omega) (by omega) ?_ | refine eqv_to _ (set_map rfl rfl) ?_ | refine ⟨_, _, (by first | rfl | assumption), at_map (by assumption), ?_⟩ | refine ⟨_, _, (by first | rfl | assumption), (by assumption), ?_⟩ | refine ⟨_, at_map (by assumption), (by decide), ?_⟩ | refine ⟨_, at_map (by assumption), ?_⟩ | (refine (?_ : _ ≤ 140737488355328); simp [rowsLen] <;> omega) | (refine (?_ : _ ≤ 9223372036854775807); simp [rowsLen] <;> omega) | (refine (?_ : _ = rowsLen _); simp [rowsLen] <;> omega) | refine eqv_to _ (app_row rfl) (eqv_to _ app_len ?_) | refine eqv_to _ (app_first rfl) (eqv_to 1 rfl ?_) | refine idx_sl (at_map (by assumption)) (by omega) ?_ | refine idx_ms _ (by first | rfl | assumption) (by first | assumption | omega) ?_ | fail)
        refine ⟨k + 1, hkl, by omega, ?_⟩
        rw [htk2, map_snoc, sl_app, ob_app]
        exact back [3] rfl rfl (by repeat' (first | exact trivial | exact rfl | exact ren_get rfl | refine kept_ob rfl ?_ | exact ⟨_, rfl, ALe.refl⟩ | refine And.intro ?_ ?_)) (by repeat' (first | exact trivial | exact rfl | exact ren_get rfl | refine kept_ob rfl ?_ | exact ⟨_, rfl, ALe.refl⟩ | (refine slot_eq rfl (congrArg (vint .i64) ?_); omega) | refine And.intro ?_ ?_))
      · obtain rfl : k = l.length := by omega
        rw [List.take_length, ← htk]
        repeat' (first | (refine fv_sl ?_) | (refine fh_ob ?_) | refine o1 ?_ | refine o2 ?_ | refine k1 ?_ | refine k2 ?_ | refine k3 ?_ | refine k4 ?_ | refine k6 ?_ | refine k7 ?_ | refine k8 ?_ | refine And.intro ?_ ?_ | exact trivial | refine o3 ?_ | refine o4 ?_ | refine o5 ?_ | refine o6 ?_ | refine k5 ?_ | (intro h; first | exact Bool.noConfusion h | exact nz _ h | exact nl h | (simp at h; done) | (simp at h; first | (exfalso; omega) | skip) | skip) | (change retOk _ _ _ _; refine ret_pure rfl trivial ?_) | exact (rfl : allOne _ = true) | (refine (?_ : (0 : Int) ≤ _); omega) | (refine (?_ : _ ≠ _); omega) | (refine (?_ : srcLen _ = rowsLen _); rfl) | exact Nat.le_of_ble_eq_true rfl | exact (by kernel_rfl : drawOk _ _ = true) | refine eqv_len_map ?_ | refine eqv_size ?_ | refine eqv_put (eqv_ck ?_) | refine eqv_zero ?_ | refine eqv_wrap (by omega) (by omega) ?_ | refine eqv_u64 (by omega) (by omega) ?_ | refine eqv_u8 (by omega) (by omega) ?_ | refine eqv_to _ (set_map rfl rfl) ?_ | refine ⟨_, _, (by first | rfl | assumption), at_map (by assumption), ?_⟩ | refine ⟨_, _, (by first | rfl | assumption), (by assumption), ?_⟩ | refine ⟨_, at_map (by assumption), (by decide), ?_⟩ | refine ⟨_, at_map (by assumption), ?_⟩ | (refine (?_ : _ ≤ 140737488355328); simp [rowsLen] <;> omega) | (refine (?_ : _ ≤ 9223372036854775807); simp [rowsLen] <;> omega) | (refine (?_ : _ = rowsLen _); simp [rowsLen] <;> omega) | refine eqv_to _ (app_row rfl) (eqv_to _ app_len ?_) | refine eqv_to _ (app_first rfl) (eqv_to 1 rfl ?_) | refine idx_sl (at_map (by assumption)) (by omega) ?_ | refine idx_ms _ (by first | rfl | assumption) (by first | assumption | omega) ?_ | fail)
        exact ⟨i + 1, hlt, by omega, back [0] rfl rfl (by repeat' (first | exact trivial | exact rfl | exact ren_get rfl | refine kept_ob rfl ?_ | exact ⟨_, rfl, ALe.refl⟩ | refine And.intro ?_ ?_)) (by repeat' (first | exact trivial | exact rfl | exact ren_get rfl | refine kept_ob rfl ?_ | exact ⟨_, rfl, ALe.refl⟩ | (refine slot_eq rfl (congrArg (vint .i64) ?_); omega) | refine And.intro ?_ ?_))⟩
    · obtain rfl : i = L.length := by omega
      rw [List.take_length]
      generalize L.flatten = A at *
      have hTl : (C ++ A.map Sess.cls).length ≤ 101000 := by rw [List.length_append, List.length_map]; omega
      generalize C ++ A.map Sess.cls = X at *
      unfold clsOf
      by_cases hX : X = []
      · subst hX
        have hz : compactS (sortS []) = [] := List.eq_nil_of_length_eq_zero (by have := compactS_len (sortS []); rw [sortS_len] at this; simpa using this)
        rw [hz]
        repeat' (first | (refine fv_sl ?_) | (refine fh_ob ?_) | refine o1 ?_ | refine o2 ?_ | refine k1 ?_ | refine k2 ?_ | refine k3 ?_ | refine k4 ?_ | refine k6 ?_ | refine k7 ?_ | refine k8 ?_ | refine And.intro ?_ ?_ | exact trivial | refine o3 ?_ | refine o4 ?_ | refine o5 ?_ | refine o6 ?_ | refine k5 ?_ | (intro h; first | exact Bool.noConfusion h | exact nz _ h | exact nl h | (simp at h; done) | (simp at h; first | (exfalso; omega) | skip) | skip) | (change retOk _ _ _ _; refine ret_pure rfl trivial ?_) | exact (rfl : allOne _ = true) | (refine (?_ : (0 : Int) ≤ _); omega) | (refine (?_ : _ ≠ _); omega) | (refine (?_ : srcLen _ = rowsLen _); rfl) | exact Nat.le_of_ble_eq_true rfl | exact (by kernel_rfl : drawOk _ _ = true) | refine eqv_len_map ?_ | refine eqv_size ?_ | refine eqv_put (eqv_ck ?_) | refine eqv_zero ?_ | refine eqv_wrap (by omega) (by omega) ?_ | refine eqv_u64 (by omega) (by omega) ?_ | refine eqv_u8 (by omega) (by omega) ?_ | refine eqv_to _ (set_map rfl rfl) ?_ | refine ⟨_, _, (by first | rfl | assumption), at_map (by assumption), ?_⟩ | refine ⟨_, _, (by first | rfl | assumption), (by assumption), ?_⟩ | refine ⟨_, at_map (by assumption), (by decide), ?_⟩ | refine ⟨_, at_map (by assumption), ?_⟩ | (refine (?_ : _ ≤ 140737488355328); simp [rowsLen] <;> omega) | (refine (?_ : _ ≤ 9223372036854775807); simp [rowsLen] <;> omega) | (refine (?_ : _ = rowsLen _); simp [rowsLen] <;> omega) | refine eqv_to _ (app_row rfl) (eqv_to _ app_len ?_) | refine eqv_to _ (app_first rfl) (eqv_to 1 rfl ?_) | refine idx_sl (at_map (by assumption)) (by omega) ?_ | refine idx_ms _ (by first | rfl | assumption) (by first | assumption | omega) ?_ | (change vcFun _ _ _ _ _; refine call_eq rfl (by repeat' (first | trivial | refine And.intro ?_ ?_ | (show 0 + _ ≤ List.length _; simp))) ALeL.refl (c_sort0) rfl ?_) | (change vcFun _ _ _ _ _; refine call_eq rfl (by repeat' (first | trivial | refine And.intro ?_ ?_ | (show 0 + _ ≤ List.length _; simp))) ALeL.refl (c_compact0) rfl ?_) | fail)
        exact ⟨ALe.pv PLe.nil⟩
      · rw [sl_ne hX (sortS_len X).symm, ob_ne hX]
        repeat' (first | ((change vcFun _ _ _ _ _; refine call_one (i := 0) rfl (fun _ _ => rfl) [.ms 0 1 0 (sortS X).length] rfl (c_sort2 X hX (by omega)) ?_; rintro r H' ⟨rfl, rfl⟩; refine ⟨_, rfl, fun _ _ => rfl, fun _ _ => rfl, ?_⟩)) | ((change vcFun _ _ _ _ _; refine call_obj [0] [some ⟨9, 1, false, .p ((sortS X).map strRow)⟩] [.ms 0 1 0 (sortS X).length] rfl ⟨rfl, trivial⟩ rfl (c_compact (sortS X) (sortS_ne hX) (by rw [sortS_len]; omega)) ?_; rintro r H' ⟨rfl, zs, rfl⟩)) | refine o1 ?_ | refine o2 ?_ | refine k1 ?_ | refine k2 ?_ | refine k3 ?_ | refine k4 ?_ | refine k6 ?_ | refine k7 ?_ | refine k8 ?_ | refine And.intro ?_ ?_ | exact trivial | refine o3 ?_ | refine o4 ?_ | refine o5 ?_ | refine o6 ?_ | refine k5 ?_ | (intro h; first | exact Bool.noConfusion h | exact nz _ h | exact nl h | (simp at h; done) | (simp at h; first | (exfalso; omega) | skip) | skip) | (change retOk _ _ _ _; refine ret_pure rfl trivial ?_) | exact (rfl : allOne _ = true) | (refine (?_ : (0 : Int) ≤ _); omega) | (refine (?_ : _ ≠ _); omega) | (refine (?_ : srcLen _ = rowsLen _); rfl) | exact Nat.le_of_ble_eq_true rfl | exact (by kernel_rfl : drawOk _ _ = true) | refine eqv_len_map ?_ | refine eqv_size ?_ | refine eqv_put (eqv_ck ?_) | refine eqv_zero ?_ | refine eqv_wrap (by omega) (by omega) ?_ | refine eqv_u64 (by omega) (by omega) ?_ | refine eqv_u8 (by omega) (by omega) ?_ | refine eqv_to _ (set_map rfl rfl) ?_ | refine ⟨_, _, (by first | rfl | assumption), at_map (by assumption), ?_⟩ | refine ⟨_, _, (by first | rfl | assumption), (by assumption), ?_⟩ | refine ⟨_, at_map (by assumption), (by decide), ?_⟩ | refine ⟨_, at_map (by assumption), ?_⟩ | (refine (?_ : _ ≤ 140737488355328); simp [rowsLen] <;> omega) | (refine (?_ : _ ≤ 9223372036854775807); simp [rowsLen] <;> omega) | (refine (?_ : _ = rowsLen _); simp [rowsLen] <;> omega) | refine eqv_to _ (app_row rfl) (eqv_to _ app_len ?_) | refine eqv_to _ (app_first rfl) (eqv_to 1 rfl ?_) | refine idx_sl (at_map (by assumption)) (by omega) ?_ | refine idx_ms _ (by first | rfl | assumption) (by first | assumption | omega) ?_ | fail)
        refine ret_conv (r0 := .pv (.sl 1 (List.take (compactS (sortS X)).length (List.drop 0 ((compactS (sortS X)).map strRow ++ zs.map strRow))))) [] [] rfl rfl trivial rfl ?_ rfl ⟨rfl, ?_⟩
        · show 0 + _ ≤ List.length _
          simp
        · rw [List.drop_zero, List.take_left' (by rw [List.length_map])]
          exact ⟨ALe.refl⟩
theorem c_classes (c : List Chg) (L : List (List Sess)) (hc : c.length ≤ 1000) (hL : L.flatten.length ≤ 100000) (hn : L.length ≤ 100) : PCall Tryd.prog 41 [.pv (encChgs c), .pv (encLs L)] (fun r => r = .pv (.sl 1 ((clsOf (c.map Chg.cls ++ L.flatten.map Sess.cls)).map strRow))) := (c_classes0 c L hc hL hn).weak fun r k => ⟨_, k.le, rfl⟩
theorem clsU_two {a b : List Sess} : clsOf (([] : List Chg).map Chg.cls ++ [a, b].flatten.map Sess.cls) = clsU a b := by
  unfold clsU; simp
theorem df1 {a b : List Sess} {w : Int} (h : ¬ validE a w = 0) : diffE a b w = validE a w ∧ diffV a b w = [] := by
  have : diffE a b w = validE a w := if_pos h
  exact ⟨this, by unfold diffV; rw [this, if_neg h]⟩
theorem df2 {a b : List Sess} {w : Int} (h1 : validE a w = 0) (h : ¬ validE b w = 0) : diffE a b w = validE b w ∧ diffV a b w = [] := by
  have : diffE a b w = validE b w := if_neg (by simp [h1])
  exact ⟨this, by unfold diffV; rw [this, if_neg h]⟩
theorem df3 {a b : List Sess} {w : Int} (h1 : validE a w = 0) (h : validE b w = 0) : diffE a b w = 0 ∧ diffV a b w = chgV a b := by
  have : diffE a b w = 0 := by unfold diffE; rw [if_neg (by simp [h1])]; exact h
  exact ⟨this, by unfold diffV; rw [this, if_pos rfl]⟩
theorem call_classes {a b : List Sess} {K : AV → Heap → Prop} (la : a.length ≤ 96) (lb : b.length ≤ 96) (hK : K (.pv (.sl 1 ((clsU a b).map strRow))) [some ⟨22, 1, true, .p [[encSess a], [encSess b]]⟩]) : vcFun Tryd.prog 41 [.pv (.val (.slice none 0 0)), .ms 0 1 0 2] [some ⟨22, 1, false, .p [[encSess a], [encSess b]]⟩] K := by
  have hc := c_classes [] [a, b] (Nat.zero_le _) (by simp; omega) (Nat.le_of_ble_eq_true rfl)
  rw [clsU_two] at hc
  have hle : ALeL [.pv (.val (.slice none 0 0)), .pv (encLs [a, b])] [.pv (encChgs []), .pv (encLs [a, b])] := ⟨ALe.pv PLe.nil, ALe.refl, trivial⟩
  refine call_frz (as0 := [.pv (.val (.slice none 0 0)), .pv (encLs [a, b])]) rfl ?_ hle hc ?_
  · repeat' (first | exact trivial | refine And.intro ?_ ?_ | (show 0 + 2 ≤ 2; omega))
  · rintro r rfl
    exact hK
theorem call_of {l : List Sess} {c : Str} {H : Heap} {K : AV → Heap → Prop} (hl : l.length ≤ 1000000000) (hK : K (.pv (encSess (ofC l c))) H) : vcFun Tryd.prog 42 [.pv (encSess l), .pv (es c)] H K := by
  refine call_frz (as0 := [.pv (encSess l), .pv (es c)]) rfl (by repeat' (first | trivial | refine And.intro ?_ ?_ | (show 0 + _ ≤ List.length _; simp))) ALeL.refl (c_of l c hl) ?_
  rintro r rfl
  exact hK
theorem chgD_t {a b : List Sess} {K : List Str} {i : Nat} {k : Str} (hk : K[i]? = some k) (h : ofC a k = ofC b k) : chgD a b (K.take (i + 1)) = chgD a b (K.take i) := by
  unfold chgD; rw [take_snoc hk, List.filterMap_append]; simp [pB_t h]
theorem chgD_f {a b : List Sess} {K : List Str} {i : Nat} {k : Str} (hk : K[i]? = some k) (h : ¬ ofC a k = ofC b k) : chgD a b (K.take (i + 1)) = chgD a b (K.take i) ++ [⟨k, ofC a k, ofC b k⟩] := by
  unfold chgD; rw [take_snoc hk, List.filterMap_append]; simp [pB_f h]
theorem chgD_len {a b : List Sess} {K : List Str} : (chgD a b K).length ≤ K.length := by
  unfold chgD; exact List.length_filterMap_le _ _
theorem clsU_len {a b : List Sess} : (clsU a b).length ≤ a.length + b.length := by
  unfold clsU clsOf
  have := compactS_len (sortS (a.map Sess.cls ++ b.map Sess.cls))
  rw [sortS_len] at this
  simpa using this
theorem ofC_leng {l : List Sess} {c : Str} : (ofC l c).length ≤ l.length := by
  unfold ofC; exact List.length_filter_le _ _
theorem c_diff0 (a b : List Sess) (w : Int) (ha : a.length ≤ 100000000) (hb : b.length ≤ 100000000) : PCall Tryd.prog 19 [.pv (encSess a), .pv (encSess b), vint .i64 w] (fun r => Leq r (.tup [.pv (encChgs (diffV a b w)), vint .i64 (diffE a b w)])) := by
  have hva := c_valid a w (by omega)
  have hvb := c_valid b w (by omega)
  by_cases h0 : validE a w = 0
  · by_cases h1 : validE b w = 0
    · obtain ⟨e1, e2⟩ := df3 h0 h1
      rw [e1, e2]
      rw [h0] at hva
      rw [h1] at hvb
      refine acall_of tok mixed 55 rfl (fn := Tryd.f19) (c := Tryd.f19.body.getD .skip) (by kernel_rfl) (by kernel_rfl) (by kernel_rfl) rfl 0 rfl ?_
      have la := (valid_parts h0).2.1
      have lb := (valid_parts h1).2.1
      repeat' (first | ((change vcFun _ _ _ _ _; refine call_classes la lb ?_)) | refine o1 ?_ | refine o2 ?_ | refine k1 ?_ | refine k2 ?_ | refine k3 ?_ | refine k4 ?_ | refine k6 ?_ | refine k7 ?_ | refine k8 ?_ | refine And.intro ?_ ?_ | exact trivial | refine o3 ?_ | refine o4 ?_ | refine o5 ?_ | refine o6 ?_ | refine k5 ?_ | (intro h; first | exact Bool.noConfusion h | exact nz _ h | exact nl h | (simp at h; done) | (simp at h; first | (exfalso; omega) | skip) | skip) | (change retOk _ _ _ _; refine ret_pure rfl trivial ?_) | exact (rfl : allOne _ = true) | (refine (?_ : (0 : Int) ≤ _); omega) | (refine (?_ : _ ≠ _); omega) | (refine (?_ : srcLen _ = rowsLen _); rfl) | exact Nat.le_of_ble_eq_true rfl | exact (by kernel_rfl : drawOk _ _ = true) | refine eqv_len_map ?_ | refine eqv_size ?_ | refine eqv_put (eqv_ck ?_) | refine eqv_zero ?_ | refine eqv_wrap (by omega) (by omega) ?_ | refine eqv_u64 (by omega) (by omega) ?_ | refine eqv_u8 (by omega) (by omega) ?_ | refine eqv_to _ (set_map rfl rfl) ?_ | refine ⟨_, _, (by first | rfl | assumption), at_map (by assumption), ?_⟩ | refine ⟨_, _, (by first | rfl | assumption), (by assumption), ?_⟩ | refine ⟨_, at_map (by assumption), (by decide), ?_⟩ | refine ⟨_, at_map (by assumption), ?_⟩ | (refine (?_ : _ ≤ 140737488355328); simp [rowsLen] <;> omega) | (refine (?_ : _ ≤ 9223372036854775807); simp [rowsLen] <;> omega) | (refine (?_ : _ = rowsLen _); simp [rowsLen] <;> omega) | refine eqv_to _ (app_row rfl) (eqv_to _ app_len ?_) | refine eqv_to _ (app_first rfl) (eqv_to 1 rfl ?_) | refine idx_sl (at_map (by assumption)) (by omega) ?_ | refine idx_ms _ (by first | rfl | assumption) (by first | assumption | omega) ?_ | (change vcFun _ _ _ _ _; refine call_eq rfl (by repeat' (first | trivial | refine And.intro ?_ ?_ | (show 0 + _ ≤ List.length _; simp))) ALeL.refl (hva) rfl ?_) | (change vcFun _ _ _ _ _; refine call_eq rfl (by repeat' (first | trivial | refine And.intro ?_ ?_ | (show 0 + _ ≤ List.length _; simp))) ALeL.refl (hvb) rfl ?_) | fail)
      have hKl := clsU_len (a := a) (b := b)
      unfold chgV
      generalize clsU a b = K at *
      refine loop_for (fun i : Nat => [(0, .pv (encSess a)), (1, .pv (encSess b)), (10, slP 0 3 ((chgD a b (K.take i)).map Chg.row)), (30, .pv (.sl 1 (K.map strRow))), (31, vint .i64 K.length), (32, vint .i64 i)]) (fun i => [obP 53 3 ((chgD a b (K.take i)).map Chg.row)]) (fun i => i ≤ K.length) (fun i => K.length - i) 0 (Nat.zero_le _) ?_ ?_
      · exact back [1] rfl rfl (by repeat' (first | exact trivial | exact rfl | exact ren_get rfl | refine kept_ob rfl ?_ | exact ⟨_, rfl, ALe.refl⟩ | refine And.intro ?_ ?_)) (by repeat' (first | exact trivial | exact rfl | exact ren_get rfl | refine kept_ob rfl ?_ | exact ⟨_, rfl, ALe.refl⟩ | refine And.intro ?_ ?_))
      intro i hi
      rcases Nat.lt_or_ge i K.length with hlt | hge
      · obtain ⟨k, hk⟩ := getE hlt
        have hkr : (K.map strRow)[i]? = some [es k] := by rw [List.getElem?_map, hk]; rfl
        have hal := ofC_leng (l := a) (c := k)
        have hbl := ofC_leng (l := b) (c := k)
        have heq := c_equal (ofC a k) (ofC b k) (by omega) (by omega)
        have hdl := Nat.le_trans (chgD_len (a := a) (b := b) (K := K.take i)) (List.length_take_le ..)
        by_cases e : ofC a k = ofC b k
        · have hd := chgD_t (a := a) (b := b) hk e
          rw [pB_t e] at heq
          generalize chgD a b (K.take i) = D at *
          repeat' (first | (refine fv_sl ?_) | (refine fh_ob ?_) | (refine ⟨_, hkr, ?_⟩) | (refine ⟨i, rfl, hlt, ?_⟩) | ((change vcFun _ _ _ _ _; refine call_of (by omega) ?_)) | refine o1 ?_ | refine o2 ?_ | refine k1 ?_ | refine k2 ?_ | refine k3 ?_ | refine k4 ?_ | refine k6 ?_ | refine k7 ?_ | refine k8 ?_ | refine And.intro ?_ ?_ | exact trivial | refine o3 ?_ | refine o4 ?_ | refine o5 ?_ | refine o6 ?_ | refine k5 ?_ | (intro h; first | exact Bool.noConfusion h | exact nz _ h | exact nl h | (simp at h; done) | (simp at h; first | (exfalso; omega) | skip) | skip) | (change retOk _ _ _ _; refine ret_pure rfl trivial ?_) | exact (rfl : allOne _ = true) | (refine (?_ : (0 : Int) ≤ _); omega) | (refine (?_ : _ ≠ _); omega) | (refine (?_ : srcLen _ = rowsLen _); rfl) | exact Nat.le_of_ble_eq_true rfl | exact (by kernel_rfl : drawOk _ _ = true) | refine eqv_len_map ?_ | refine eqv_size ?_ | refine eqv_put (eqv_ck ?_) | refine eqv_zero ?_ | refine eqv_wrap (by omega) (by omega) ?_ | refine eqv_u64 (by omega) (by omega) ?_ | refine eqv_u8 (by omega) (by omega) ?_ | refine eqv_to _ (set_map rfl rfl) ?_ | refine ⟨_, _, (by first | rfl | assumption), at_map (by assumption), ?_⟩ | refine ⟨_, _, (by first | rfl | assumption), (by assumption), ?_⟩ | refine ⟨_, at_map (by assumption), (by decide), ?_⟩ | refine ⟨_, at_map (by assumption), ?_⟩ | (refine (?_ : _ ≤ 140737488355328); simp [rowsLen] <;> omega) | (refine (?_ : _ ≤ 9223372036854775807); simp [rowsLen] <;> omega) | (refine (?_ : _ = rowsLen _); simp [rowsLen] <;> omega) | refine eqv_to _ (app_row rfl) (eqv_to _ app_len ?_) | refine eqv_to _ (app_first rfl) (eqv_to 1 rfl ?_) | refine idx_sl (at_map (by assumption)) (by omega) ?_ | refine idx_ms _ (by first | rfl | assumption) (by first | assumption | omega) ?_ | (change vcFun _ _ _ _ _; refine call_eq rfl (by repeat' (first | trivial | refine And.intro ?_ ?_ | (show 0 + _ ≤ List.length _; simp))) ALeL.refl (heq) rfl ?_) | fail)
          refine ⟨i + 1, hlt, by omega, ?_⟩
          rw [hd]
          exact back [0] rfl rfl (by repeat' (first | exact trivial | exact rfl | exact ren_get rfl | refine kept_ob rfl ?_ | exact ⟨_, rfl, ALe.refl⟩ | refine And.intro ?_ ?_)) (by repeat' (first | exact trivial | exact rfl | exact ren_get rfl | refine kept_ob rfl ?_ | exact ⟨_, rfl, ALe.refl⟩ | (refine slot_eq rfl (congrArg (vint .i64) ?_); omega) | refine And.intro ?_ ?_))
        · have hd := chgD_f (a := a) (b := b) hk e
          rw [pB_f e] at heq
          generalize chgD a b (K.take i) = D at *
          repeat' (first | (refine fv_sl ?_) | (refine fh_ob ?_) | (refine ⟨_, hkr, ?_⟩) | (refine ⟨i, rfl, hlt, ?_⟩) | ((change vcFun _ _ _ _ _; refine call_of (by omega) ?_)) | ((refine o_app rfl rfl rfl rfl rfl rfl rfl rfl rfl rfl rfl (by simp; omega) (by simp; omega) ?_)) | refine o1 ?_ | refine o2 ?_ | refine k1 ?_ | refine k2 ?_ | refine k3 ?_ | refine k4 ?_ | refine k6 ?_ | refine k7 ?_ | refine k8 ?_ | refine And.intro ?_ ?_ | exact trivial | refine o3 ?_ | refine o4 ?_ | refine o5 ?_ | refine o6 ?_ | refine k5 ?_ | (intro h; first | exact Bool.noConfusion h | exact nz _ h | exact nl h | (simp at h; done) | (simp at h; first | (exfalso; omega) | skip) | skip) | (change retOk _ _ _ _; refine ret_pure rfl trivial ?_) | exact (rfl : allOne _ = true) | (refine (?_ : (0 : Int) ≤ _); omega) | (refine (?_ : _ ≠ _); omega) | (refine (?_ : srcLen _ = rowsLen _); rfl) | exact Nat.le_of_ble_eq_true rfl | exact (by kernel_rfl : drawOk _ _ = true) | refine eqv_len_map ?_ | refine eqv_size ?_ | refine eqv_put (eqv_ck ?_) | refine eqv_zero ?_ | refine eqv_wrap (by omega) (by omega) ?_ | refine eqv_u64 (by omega) (by omega) ?_ | refine eqv_u8 (by omega) (by omega) ?_ | refine eqv_to _ (set_map rfl rfl) ?_ | refine ⟨_, _, (by first | rfl | assumption), at_map (by assumption), ?_⟩ | refine ⟨_, _, (by first | rfl | assumption), (by assumption), ?_⟩ | refine ⟨_, at_map (by assumption), (by decide), ?_⟩ | refine ⟨_, at_map (by assumption), ?_⟩ | (refine (?_ : _ ≤ 140737488355328); simp [rowsLen] <;> omega) | (refine (?_ : _ ≤ 9223372036854775807); simp [rowsLen] <;> omega) | (refine (?_ : _ = rowsLen _); simp [rowsLen] <;> omega) | refine eqv_to _ (app_row rfl) (eqv_to _ app_len ?_) | refine eqv_to _ (app_first rfl) (eqv_to 1 rfl ?_) | refine idx_sl (at_map (by assumption)) (by omega) ?_ | refine idx_ms _ (by first | rfl | assumption) (by first | assumption | omega) ?_ | (change vcFun _ _ _ _ _; refine call_eq rfl (by repeat' (first | trivial | refine And.intro ?_ ?_ | (show 0 + _ ≤ List.length _; simp))) ALeL.refl (heq) rfl ?_) | fail)
          refine ⟨i + 1, hlt, by omega, ?_⟩
          rw [hd, map_snoc, sl_app, ob_app]
          exact back [2] rfl rfl (by repeat' (first | exact trivial | exact rfl | exact ren_get rfl | refine kept_ob rfl ?_ | exact ⟨_, rfl, ALe.refl⟩ | refine And.intro ?_ ?_)) (by repeat' (first | exact trivial | exact rfl | exact ren_get rfl | refine kept_ob rfl ?_ | exact ⟨_, rfl, ALe.refl⟩ | (refine slot_eq rfl (congrArg (vint .i64) ?_); omega) | refine And.intro ?_ ?_))
      · obtain rfl : i = K.length := by omega
        rw [List.take_length]
        repeat' (first | (refine fv_sl ?_) | (refine fh_ob ?_) | refine o1 ?_ | refine o2 ?_ | refine k1 ?_ | refine k2 ?_ | refine k3 ?_ | refine k4 ?_ | refine k6 ?_ | refine k7 ?_ | refine k8 ?_ | refine And.intro ?_ ?_ | exact trivial | refine o3 ?_ | refine o4 ?_ | refine o5 ?_ | refine o6 ?_ | refine k5 ?_ | (intro h; first | exact Bool.noConfusion h | exact nz _ h | exact nl h | (simp at h; done) | (simp at h; first | (exfalso; omega) | skip) | skip) | (change retOk _ _ _ _; refine ret_pure rfl trivial ?_) | exact (rfl : allOne _ = true) | (refine (?_ : (0 : Int) ≤ _); omega) | (refine (?_ : _ ≠ _); omega) | (refine (?_ : srcLen _ = rowsLen _); rfl) | exact Nat.le_of_ble_eq_true rfl | exact (by kernel_rfl : drawOk _ _ = true) | refine eqv_len_map ?_ | refine eqv_size ?_ | refine eqv_put (eqv_ck ?_) | refine eqv_zero ?_ | refine eqv_wrap (by omega) (by omega) ?_ | refine eqv_u64 (by omega) (by omega) ?_ | refine eqv_u8 (by omega) (by omega) ?_ | refine eqv_to _ (set_map rfl rfl) ?_ | refine ⟨_, _, (by first | rfl | assumption), at_map (by assumption), ?_⟩ | refine ⟨_, _, (by first | rfl | assumption), (by assumption), ?_⟩ | refine ⟨_, at_map (by assumption), (by decide), ?_⟩ | refine ⟨_, at_map (by assumption), ?_⟩ | (refine (?_ : _ ≤ 140737488355328); simp [rowsLen] <;> omega) | (refine (?_ : _ ≤ 9223372036854775807); simp [rowsLen] <;> omega) | (refine (?_ : _ = rowsLen _); simp [rowsLen] <;> omega) | refine eqv_to _ (app_row rfl) (eqv_to _ app_len ?_) | refine eqv_to _ (app_first rfl) (eqv_to 1 rfl ?_) | refine idx_sl (at_map (by assumption)) (by omega) ?_ | refine idx_ms _ (by first | rfl | assumption) (by first | assumption | omega) ?_ | fail)
        exact ret_sl2 (id := 0) (ty := 53) rfl rfl
    · obtain ⟨e1, e2⟩ := df2 h0 h1
      rw [e1, e2]
      rw [h0] at hva
      generalize validE b w = E at *
      refine acall_of tok mixed 55 rfl (fn := Tryd.f19) (c := Tryd.f19.body.getD .skip) (by kernel_rfl) (by kernel_rfl) (by kernel_rfl) rfl 0 rfl ?_
      repeat' (first | refine o1 ?_ | refine o2 ?_ | refine k1 ?_ | refine k2 ?_ | refine k3 ?_ | refine k4 ?_ | refine k6 ?_ | refine k7 ?_ | refine k8 ?_ | refine And.intro ?_ ?_ | exact trivial | refine o3 ?_ | refine o4 ?_ | refine o5 ?_ | refine o6 ?_ | refine k5 ?_ | (intro h; first | exact Bool.noConfusion h | exact nz _ h | exact nl h | (simp at h; done) | (simp at h; first | (exfalso; omega) | skip) | skip) | (change retOk _ _ _ _; refine ret_pure rfl trivial ?_) | exact (rfl : allOne _ = true) | (refine (?_ : (0 : Int) ≤ _); omega) | (refine (?_ : _ ≠ _); omega) | (refine (?_ : srcLen _ = rowsLen _); rfl) | exact Nat.le_of_ble_eq_true rfl | exact (by kernel_rfl : drawOk _ _ = true) | refine eqv_len_map ?_ | refine eqv_size ?_ | refine eqv_put (eqv_ck ?_) | refine eqv_zero ?_ | refine eqv_wrap (by omega) (by omega) ?_ | refine eqv_u64 (by omega) (by omega) ?_ | refine eqv_u8 (by omega) (by omega) ?_ | refine eqv_to _ (set_map rfl rfl) ?_ | refine ⟨_, _, (by first | rfl | assumption), at_map (by assumption), ?_⟩ | refine ⟨_, _, (by first | rfl | assumption), (by assumption), ?_⟩ | refine ⟨_, at_map (by assumption), (by decide), ?_⟩ | refine ⟨_, at_map (by assumption), ?_⟩ | (refine (?_ : _ ≤ 140737488355328); simp [rowsLen] <;> omega) | (refine (?_ : _ ≤ 9223372036854775807); simp [rowsLen] <;> omega) | (refine (?_ : _ = rowsLen _); simp [rowsLen] <;> omega) | refine eqv_to _ (app_row rfl) (eqv_to _ app_len ?_) | refine eqv_to _ (app_first rfl) (eqv_to 1 rfl ?_) | refine idx_sl (at_map (by assumption)) (by omega) ?_ | refine idx_ms _ (by first | rfl | assumption) (by first | assumption | omega) ?_ | (change vcFun _ _ _ _ _; refine call_eq rfl (by repeat' (first | trivial | refine And.intro ?_ ?_ | (show 0 + _ ≤ List.length _; simp))) ALeL.refl (hva) rfl ?_) | (change vcFun _ _ _ _ _; refine call_eq rfl (by repeat' (first | trivial | refine And.intro ?_ ?_ | (show 0 + _ ≤ List.length _; simp))) ALeL.refl (hvb) rfl ?_) | fail)
      exact ⟨ALe.tup ⟨ALe.pv PLe.nil, ALe.refl, trivial⟩⟩
  · obtain ⟨e1, e2⟩ := df1 (b := b) h0
    rw [e1, e2]
    generalize validE a w = E at *
    refine acall_of tok mixed 55 rfl (fn := Tryd.f19) (c := Tryd.f19.body.getD .skip) (by kernel_rfl) (by kernel_rfl) (by kernel_rfl) rfl 0 rfl ?_
    repeat' (first | refine o1 ?_ | refine o2 ?_ | refine k1 ?_ | refine k2 ?_ | refine k3 ?_ | refine k4 ?_ | refine k6 ?_ | refine k7 ?_ | refine k8 ?_ | refine And.intro ?_ ?_ | exact trivial | refine o3 ?_ | refine o4 ?_ | refine o5 ?_ | refine o6 ?_ | refine k5 ?_ | (intro h; first | exact Bool.noConfusion h | exact nz _ h | exact nl h | (simp at h; done) | (simp at h; first | (exfalso; omega) | skip) | skip) | (change retOk _ _ _ _; refine ret_pure rfl trivial ?_) | exact (rfl : allOne _ = true) | (refine (?_ : (0 : Int) ≤ _); omega) | (refine (?_ : _ ≠ _); omega) | (refine (?_ : srcLen _ = rowsLen _); rfl) | exact Nat.le_of_ble_eq_true rfl | exact (by kernel_rfl : drawOk _ _ = true) | refine eqv_len_map ?_ | refine eqv_size ?_ | refine eqv_put (eqv_ck ?_) | refine eqv_zero ?_ | refine eqv_wrap (by omega) (by omega) ?_ | refine eqv_u64 (by omega) (by omega) ?_ | refine eqv_u8 (by omega) (by omega) ?_ | refine eqv_to _ (set_map rfl rfl) ?_ | refine ⟨_, _, (by first | rfl | assumption), at_map (by assumption), ?_⟩ | refine ⟨_, _, (by first | rfl | assumption), (by assumption), ?_⟩ | refine ⟨_, at_map (by assumption), (by decide), ?_⟩ | refine ⟨_, at_map (by assumption), ?_⟩ | (refine (?_ : _ ≤ 140737488355328); simp [rowsLen] <;> omega) | (refine (?_ : _ ≤ 9223372036854775807); simp [rowsLen] <;> omega) | (refine (?_ : _ = rowsLen _); simp [rowsLen] <;> omega) | refine eqv_to _ (app_row rfl) (eqv_to _ app_len ?_) | refine eqv_to _ (app_first rfl) (eqv_to 1 rfl ?_) | refine idx_sl (at_map (by assumption)) (by omega) ?_ | refine idx_ms _ (by first | rfl | assumption) (by first | assumption | omega) ?_ | (change vcFun _ _ _ _ _; refine call_eq rfl (by repeat' (first | trivial | refine And.intro ?_ ?_ | (show 0 + _ ≤ List.length _; simp))) ALeL.refl (hva) rfl ?_) | (change vcFun _ _ _ _ _; refine call_eq rfl (by repeat' (first | trivial | refine And.intro ?_ ?_ | (show 0 + _ ≤ List.length _; simp))) ALeL.refl (hvb) rfl ?_) | fail)
    exact ⟨ALe.tup ⟨ALe.pv PLe.nil, ALe.refl, trivial⟩⟩
theorem c_diff (a b : List Sess) (w : Int) (ha : a.length ≤ 100000000) (hb : b.length ≤ 100000000) : PCall Tryd.prog 19 [.pv (encSess a), .pv (encSess b), vint .i64 w] (fun r => r = .tup [.pv (encChgs (diffV a b w)), vint .i64 (diffE a b w)]) := (c_diff0 a b w ha hb).weak fun r k => ⟨_, k.le, rfl⟩
end Go.Proofs.YtbcacaodfpgflaaDoor.Cw

/-
  The example with which each law of chapter 34 begins: it answers true.
-/
namespace Go.Proofs.YtbcacaodfpgflaaDoor.Cw
open Go Go.Cw Go.Proofs
set_option linter.unusedVariables false
set_option maxRecDepth 100000
set_option maxHeartbeats 8000000

def chC : Str := ⟨#[99]⟩
def awA : Sess := ⟨chC, ⟨1023, 0, 0, 1⟩, emp⟩
def awB : Sess := ⟨chC, ⟨1023, 1, 0, 1⟩, emp⟩
def awC : Sess := ⟨chC, ⟨7, 0, 0, 1⟩, emp⟩
def awD : Sess := ⟨chC, ⟨1016, 1, 0, 1⟩, emp⟩
def awO (l : List Sess) : Option AObj := some ⟨45, 6, false, .p (l.map Sess.row)⟩
theorem aw_splice : ACall Tryd.prog 10 [.ms 0 6 0 1, .ms 1 6 0 1, vint .i64 10, vint .i64 4] [awO [awA], awO [awB]] (fun r H' => r = .tup [.ms 2 6 0 2, vint .i64 0] ∧ H' = [awO [awA], awO [awB], awO [awC, awD]]) := by
  have h : exFun T F 100000 20 10 [.ms 0 6 0 1, .ms 1 6 0 1, vint .i64 10, vint .i64 4] [awO [awA], awO [awB]] = some (.tup [.ms 2 6 0 2, vint .i64 0], [awO [awA], awO [awB], awO [awC, awD]]) := by kernel_rfl
  exact (exFun_ok tok fok mixed 100000 20 10 _ [awO [awA], awO [awB]] _ _ h)
theorem aw_valid : PCall Tryd.prog 15 [.pv (encSess [awC, awD]), vint .i64 10] (fun r => r = vint .i64 0) := by
  have h : exFun T F 100000 20 15 [.pv (encSess [awC, awD]), vint .i64 10] [] = some (vint .i64 0, []) := by kernel_rfl
  exact (exFun_ok tok fok mixed 100000 20 15 _ [] _ _ h).mono fun r H' e => ⟨e.2, e.1⟩
theorem aw_code : codeP chC := by
  refine ⟨by decide, by decide, fun i hi b hb => ?_⟩
  obtain rfl : i = 0 := by have : i < 1 := hi; omega
  cases hb
  unfold chrP
  decide
theorem aw_sess {w d : Int} (hw : 1 ≤ w ∧ w < 1024) (hd : 0 ≤ d ∧ d < 7) : sessE ⟨chC, ⟨w, d, 0, 1⟩, emp⟩ 10 = 0 := by
  have h1 : setP w 20 := ⟨by decide, by decide, hw.1, by show w < 1048576; omega⟩
  have h2 : setP w 10 := ⟨by decide, by decide, hw.1, by show w < 1024; omega⟩
  have h3 : timeP ⟨chC, ⟨w, d, 0, 1⟩, emp⟩ 10 := ⟨⟨h1, hd.1, hd.2, (by decide : (0 : Int) ≤ 0), (by decide : (0 : Int) < 24), (by decide : (1 : Int) ≤ 1), (by decide : (1 : Int) ≤ 24 - 0)⟩, h2⟩
  unfold sessE
  rw [if_pos (pB_t aw_code), if_pos (pB_t h3), if_pos (pB_t (.inl rfl))]
theorem aw_validA : validE [awA] 10 = 0 := by
  refine valid_of ⟨by decide, by decide⟩ (by decide) (fun s hs => ?_) (fun i a b ha hb => ?_) (fun i k a b hk ha hb => ?_)
  · rw [List.mem_singleton.1 hs]; exact aw_sess ⟨by decide, by decide⟩ ⟨by decide, by decide⟩
  · cases hb
  · have := (List.getElem?_eq_some_iff.1 ha).1
    have : i < 1 := this
    omega
theorem aw_validL : validE [awC, awD] 10 = 0 := by
  refine valid_of ⟨by decide, by decide⟩ (by decide) (fun s hs => ?_) (fun i a b ha hb => ?_) (fun i k a b hk ha hb => ?_)
  · rcases List.mem_cons.1 hs with rfl | hs
    · exact aw_sess ⟨by decide, by decide⟩ ⟨by decide, by decide⟩
    · rw [List.mem_singleton.1 hs]; exact aw_sess ⟨by decide, by decide⟩ ⟨by decide, by decide⟩
  · have := (List.getElem?_eq_some_iff.1 hb).1
    have : i + 1 < 2 := this
    obtain rfl : i = 0 := by omega
    cases ha; cases hb
    exact .inr ⟨rfl, by decide⟩
  · have := (List.getElem?_eq_some_iff.1 ha).1
    have : i < 2 := this
    obtain rfl : i = 1 := by omega
    obtain rfl : k = 0 := by omega
    cases ha; cases hb
    rintro (h | h)
    · exact h.2 (by decide)
    · exact absurd h.2.1 (by decide)
theorem aw_cls : clsU [awA] [awC, awD] = [chC] := by
  unfold clsU
  refine strS_unique clsOf_str ?_ fun x => ?_
  · exact List.pairwise_singleton ..
  · rw [clsOf_mem]
    show x ∈ [chC, chC, chC] ↔ _
    simp
theorem aw_diff : diffE [awA] [awC, awD] 10 = 0 ∧ diffV [awA] [awC, awD] 10 = [⟨chC, [awA], [awC, awD]⟩] := by
  obtain ⟨h1, h2⟩ := df3 aw_validA aw_validL
  refine ⟨h1, ?_⟩
  rw [h2]
  unfold chgV
  rw [aw_cls]
  have e1 : ofC [awA] chC = [awA] := by unfold ofC; simp [awA, pB_t]
  have e2 : ofC [awC, awD] chC = [awC, awD] := by unfold ofC; simp [awC, awD, pB_t]
  unfold chgD
  have e3 : ¬ [awA] = [awC, awD] := fun h => by have := congrArg List.length h; cases this
  simp [e1, e2, pB_f e3]
theorem call_awdiff {K : AV → Heap → Prop} (hK : K (.tup [.pv (encChgs [⟨chC, [awA], [awC, awD]⟩]), vint .i64 0]) [some ⟨45, 6, true, .p [awA.row]⟩, awO [awB], some ⟨45, 6, true, .p [awC.row, awD.row]⟩]) :
    vcFun Tryd.prog 19 [.ms 0 6 0 1, .ms 2 6 0 2, vint .i64 10] [awO [awA], awO [awB], awO [awC, awD]] K := by
  have h3 := c_diff [awA] [awC, awD] 10 (by decide) (by decide)
  rw [aw_diff.1, aw_diff.2] at h3
  have hle : ALeL [.pv (encSess [awA]), .pv (encSess [awC, awD]), vint .i64 10] [.pv (encSess [awA]), .pv (encSess [awC, awD]), vint .i64 10] := ALeL.refl
  refine call_frz (as0 := [.pv (encSess [awA]), .pv (encSess [awC, awD]), vint .i64 10]) rfl ?_ hle h3 ?_
  · repeat' (first | exact trivial | refine And.intro ?_ ?_ | (show 0 + 1 ≤ 1; omega) | (show 0 + 2 ≤ 2; omega))
  · rintro r rfl
    exact hK
theorem call_awsplice {K : AV → Heap → Prop} (hK : K (.tup [.ms 2 6 0 2, vint .i64 0]) [some ⟨45, 6, false, .p [awA.row]⟩, some ⟨45, 6, false, .p [awB.row]⟩, some ⟨45, 6, false, .p [awC.row, awD.row]⟩]) :
    vcFun Tryd.prog 10 [.ms 0 6 0 1, .ms 1 6 0 1, vint .i64 10, vint .i64 4] [awO [awA], awO [awB]] K := by
  refine call_obj [0, 1] [awO [awA], awO [awB]] [.ms 0 6 0 1, .ms 1 6 0 1, vint .i64 10, vint .i64 4] rfl ⟨rfl, rfl, trivial⟩ rfl aw_splice ?_
  rintro r H' ⟨rfl, rfl⟩
  exact ⟨Nat.le_of_ble_eq_true rfl, hK⟩
theorem awake_ok : PCall Tryd.prog 7 [] (fun r => r = vbool true) := by
  refine acall_of tok mixed 70 rfl (fn := Tryd.f7) (c := Tryd.f7.body.getD .skip) (by kernel_rfl) (by kernel_rfl) (by kernel_rfl) rfl 0 rfl ?_
  repeat' (first | ((change vcFun _ _ _ _ _; refine call_awsplice ?_)) | (refine ⟨0, rfl, Nat.le_of_ble_eq_true rfl, ?_⟩) | (refine ⟨1, rfl, Nat.le_of_ble_eq_true rfl, ?_⟩) | (refine ⟨0, Chg.row ⟨chC, [awA], [awC, awD]⟩, rfl, rfl, ?_⟩) | (refine ⟨awC.row, rfl, ?_⟩) | (refine ⟨awD.row, rfl, ?_⟩) | ((change vcFun _ _ _ _ _; refine call_awdiff ?_)) | refine o1 ?_ | refine o2 ?_ | refine k1 ?_ | refine k2 ?_ | refine k3 ?_ | refine k4 ?_ | refine k6 ?_ | refine k7 ?_ | refine k8 ?_ | refine And.intro ?_ ?_ | exact trivial | refine o3 ?_ | refine o4 ?_ | refine o5 ?_ | refine o6 ?_ | refine k5 ?_ | (intro h; first | exact Bool.noConfusion h | exact nz _ h | exact nl h | (simp at h; done) | (simp at h; first | (exfalso; omega) | skip) | skip) | (change retOk _ _ _ _; refine ret_pure rfl trivial ?_) | exact (rfl : allOne _ = true) | (refine (?_ : (0 : Int) ≤ _); omega) | (refine (?_ : _ ≠ _); omega) | (refine (?_ : srcLen _ = rowsLen _); rfl) | exact Nat.le_of_ble_eq_true rfl | exact (by kernel_rfl : drawOk _ _ = true) | refine eqv_len_map ?_ | refine eqv_size ?_ | refine eqv_put (eqv_ck ?_) | refine eqv_zero ?_ | refine eqv_wrap (by omega) (by omega) ?_ | refine eqv_u64 (by omega) (by omega) ?_ | refine eqv_u8 (by omega) (by omega) ?_ | refine eqv_to _ (set_map rfl rfl) ?_ | refine ⟨_, _, (by first | rfl | assumption), at_map (by assumption), ?_⟩ | refine ⟨_, _, (by first | rfl | assumption), (by assumption), ?_⟩ | refine ⟨_, at_map (by assumption), (by decide), ?_⟩ | refine ⟨_, at_map (by assumption), ?_⟩ | (refine (?_ : _ ≤ 140737488355328); simp [rowsLen] <;> omega) | (refine (?_ : _ ≤ 9223372036854775807); simp [rowsLen] <;> omega) | (refine (?_ : _ = rowsLen _); simp [rowsLen] <;> omega) | refine eqv_to _ (app_row rfl) (eqv_to _ app_len ?_) | refine eqv_to _ (app_first rfl) (eqv_to 1 rfl ?_) | refine idx_sl (at_map (by assumption)) (by omega) ?_ | refine idx_ms _ (by first | rfl | assumption) (by first | assumption | omega) ?_ | (change vcFun _ _ _ _ _; refine call_eq rfl (by repeat' (first | trivial | refine And.intro ?_ ?_ | (show 0 + _ ≤ List.length _; simp))) ALeL.refl (aw_valid) rfl ?_) | fail)
  rfl
end Go.Proofs.YtbcacaodfpgflaaDoor.Cw

/-
  Laws: ChangesSplices.
-/
namespace Go.Proofs.YtbcacaodfpgflaaDoor.Cw
open Go Go.Cw Go.Proofs
set_option linter.unusedVariables false
set_option maxRecDepth 100000
set_option maxHeartbeats 8000000

theorem call_splice {a b : List Sess} {w k : Int} {H : Heap} {K : AV → Heap → Prop} (ha : a.length ≤ 100000000) (hb : b.length ≤ 100000000) (hK : K (.tup [.pv (encSess (splV a b w k)), vint .i64 (splE a b w k)]) H) : vcFun Tryd.prog 10 [.pv (encSess a), .pv (encSess b), vint .i64 w, vint .i64 k] H K := by
  refine call_frz (as0 := [.pv (encSess a), .pv (encSess b), vint .i64 w, vint .i64 k]) rfl (by repeat' (first | trivial | refine And.intro ?_ ?_ | (show 0 + _ ≤ List.length _; simp))) ALeL.refl (c_splice a b w k ha hb) ?_
  rintro r rfl
  exact hK
theorem norm_lenA {l : List Sess} {w : Int} : (normV l w).length ≤ 96 := by
  by_cases h : normE l w = 0
  · exact norm_len h
  · unfold normV; rw [if_neg h]; exact Nat.zero_le _
theorem c_sameT (a : List Sess) (ha : a.length ≤ 140000000000) : PCall Tryd.prog 12 [.pv (encSess a), .pv (encSess a)] (fun r => r = vbool true) := by
  have := c_same a a ha ha
  rwa [pB_t rfl] at this
theorem splV_len {a b : List Sess} {w k : Int} : (splV a b w k).length ≤ 140000000000 := by
  unfold splV
  split
  · exact Nat.le_trans norm_lenA (by omega)
  · exact Nat.zero_le _
end Go.Proofs.YtbcacaodfpgflaaDoor.Cw

/-
  Laws: ChangesValid.
-/
namespace Go.Proofs.YtbcacaodfpgflaaDoor.Cw
open Go Go.Cw Go.Proofs
set_option linter.unusedVariables false
set_option maxRecDepth 100000
set_option maxHeartbeats 8000000

theorem call_norm34 {l : List Sess} {w : Int} {H : Heap} {K : AV → Heap → Prop} (hl : l.length ≤ 1000000000) (hK : K (.tup [.pv (encSess (normV l w)), vint .i64 (normE l w)]) H) : vcFun Tryd.prog 13 [.pv (encSess l), vint .i64 w] H K := by
  refine call_frz (as0 := [.pv (encSess l), vint .i64 w]) rfl (by repeat' (first | trivial | refine And.intro ?_ ?_ | (show 0 + _ ≤ List.length _; simp))) ALeL.refl (c_norm l w hl) ?_
  rintro r rfl
  exact hK
theorem call_at34 {l : List Sess} {c : Str} {w : Int} {H : Heap} {K : AV → Heap → Prop} (hl : l.length ≤ 1000000000) (hK : K (atV (atO l c w)) H) : vcFun Tryd.prog 17 [.pv (encSess l), .pv (es c), vint .i64 w] H K := by
  refine call_frz (as0 := [.pv (encSess l), .pv (es c), vint .i64 w]) rfl (by repeat' (first | trivial | refine And.intro ?_ ?_ | (show 0 + _ ≤ List.length _; simp))) ALeL.refl (c_at l c w (by omega)) ?_
  rintro r rfl
  exact hK
theorem call_rat34 {l : List Sess} {c : Str} {w : Int} {H : Heap} {K : AV → Heap → Prop} (hl : l.length ≤ 1000000000) (hw : -9223372036854775808 ≤ w ∧ w ≤ 9223372036854775807) (hK : K (atV (atO l c w)) H) : vcFun Tryd.prog 18 [.pv (encSess l), .pv (es c), vint .i64 w] H K := by
  refine call_frz (as0 := [.pv (encSess l), .pv (es c), vint .i64 w]) rfl (by repeat' (first | trivial | refine And.intro ?_ ?_ | (show 0 + _ ≤ List.length _; simp))) ALeL.refl (c_rat l c w (by omega) hw) ?_
  rintro r rfl
  exact hK
theorem sess_load {L : List (List PV)} {k : Nat} {C : List PV → Prop} (x y z : List Sess) (hx : x.length ≤ 1000000) (hy : y.length ≤ 1000000) (hz : z.length ≤ 1000000) (hL : L = [[encSess x], [encSess y], [encSess z]]) (hk : k < 3) (h : ∀ l : List Sess, l.length ≤ 1000000 → C [encSess l]) : ∃ r, L[k]? = some r ∧ C r := by
  subst hL
  match k, hk with
  | 0, _ => exact ⟨_, rfl, h _ hx⟩
  | 1, _ => exact ⟨_, rfl, h _ hy⟩
  | 2, _ => exact ⟨_, rfl, h _ hz⟩
theorem int_load {L : List (List PV)} {k : Nat} {C : List PV → Prop} (x y z : Int) (hL : L = [[ei x], [ei y], [ei z]]) (hk : k < 3) (h : ∀ l : Int, C [ei l]) : ∃ r, L[k]? = some r ∧ C r := by
  subst hL
  match k, hk with
  | 0, _ => exact ⟨_, rfl, h _⟩
  | 1, _ => exact ⟨_, rfl, h _⟩
  | 2, _ => exact ⟨_, rfl, h _⟩
theorem str_load {L : List (List PV)} {k : Nat} {C : List PV → Prop} (x y z : Str) (hL : L = [[es x], [es y], [es z]]) (hk : k < 3) (h : ∀ l : Str, C [es l]) : ∃ r, L[k]? = some r ∧ C r := by
  subst hL
  match k, hk with
  | 0, _ => exact ⟨_, rfl, h _⟩
  | 1, _ => exact ⟨_, rfl, h _⟩
  | 2, _ => exact ⟨_, rfl, h _⟩
theorem normA_len {l : List Sess} {w : Int} : (normV l w).length ≤ 140000000000 := Nat.le_trans norm_lenA (by omega)
theorem and_range {x y : Int} : -9223372036854775808 ≤ bits .and .i64 x y ∧ bits .and .i64 x y ≤ 9223372036854775807 := by
  unfold bits
  simp only
  rw [IntKind.wrap_i64]
  omega
theorem sEq_no {a b : Str} (h : sEq a a = false ∨ sEq b b = false) : False := by
  rw [sEq_self, sEq_self] at h
  rcases h with h | h <;> cases h
theorem c_valids (raw : List Sess) (t : List Int) (ws wk : Int) (hr : raw.length ≤ 9223372036854775807) (hwk : -9223372036854775808 ≤ wk ∧ wk ≤ 9223372036854775807) : PCall Tryd.prog 4 [.pv (encSess raw), .pv (encInts t), vint .i64 ws, vint .i64 wk] (fun r => r = vbool true) := by
  have hL := c_light t
  refine acall_of tok mixed 161 rfl (fn := Tryd.f4) (c := Tryd.f4.body.getD .skip) (by kernel_rfl) (by kernel_rfl) (by kernel_rfl) rfl 0 rfl ?_
  repeat' (first | ((change vcFun _ _ _ _ _; refine call_new [.pv (encInts t)] rfl (c_roll t) (fun _ _ => rfl) ?_)) | ((change vcFun _ _ _ _ _; refine call_lists 1 rfl (by assumption) ?_; intro w a b c kq ha hb hc hkq)) | (refine ⟨0, rfl, Nat.le_of_ble_eq_true rfl, ?_⟩) | (refine ⟨1, rfl, Nat.le_of_ble_eq_true rfl, ?_⟩) | refine o1 ?_ | refine o2 ?_ | refine k1 ?_ | refine k2 ?_ | refine k3 ?_ | refine k4 ?_ | refine k6 ?_ | refine k7 ?_ | refine k8 ?_ | refine And.intro ?_ ?_ | exact trivial | refine o3 ?_ | refine o4 ?_ | refine o5 ?_ | refine o6 ?_ | refine k5 ?_ | (intro h; first | exact Bool.noConfusion h | exact nz _ h | exact nl h | (simp at h; done) | (simp at h; first | (exfalso; omega) | skip) | skip) | (change retOk _ _ _ _; refine ret_pure rfl trivial ?_) | exact (rfl : allOne _ = true) | (refine (?_ : (0 : Int) ≤ _); omega) | (refine (?_ : _ ≠ _); omega) | (refine (?_ : srcLen _ = rowsLen _); rfl) | exact Nat.le_of_ble_eq_true rfl | exact (by kernel_rfl : drawOk _ _ = true) | refine eqv_len_map ?_ | refine eqv_size ?_ | refine eqv_put (eqv_ck ?_) | refine eqv_zero ?_ | refine eqv_wrap (by omega) (by omega) ?_ | refine eqv_u64 (by omega) (by omega) ?_ | refine eqv_u8 (by omega) (by omega) ?_ | refine eqv_to _ (set_map rfl rfl) ?_ | refine ⟨_, _, (by first | rfl | assumption), at_map (by assumption), ?_⟩ | refine ⟨_, _, (by first | rfl | assumption), (by assumption), ?_⟩ | refine ⟨_, at_map (by assumption), (by decide), ?_⟩ | refine ⟨_, at_map (by assumption), ?_⟩ | (refine (?_ : _ ≤ 140737488355328); simp [rowsLen] <;> omega) | (refine (?_ : _ ≤ 9223372036854775807); simp [rowsLen] <;> omega) | (refine (?_ : _ = rowsLen _); simp [rowsLen] <;> omega) | refine eqv_to _ (app_row rfl) (eqv_to _ app_len ?_) | refine eqv_to _ (app_first rfl) (eqv_to 1 rfl ?_) | refine idx_sl (at_map (by assumption)) (by omega) ?_ | refine idx_ms _ (by first | rfl | assumption) (by first | assumption | omega) ?_ | (change vcFun _ _ _ _ _; refine call_eq rfl (by repeat' (first | trivial | refine And.intro ?_ ?_ | (show 0 + _ ≤ List.length _; simp))) ALeL.refl (hL) rfl ?_) | (change vcFun _ _ _ _ _; refine call_eq rfl (by repeat' (first | trivial | refine And.intro ?_ ?_ | (show 0 + _ ≤ List.length _; simp))) ALeL.refl (awake_ok) rfl ?_) | fail)
  all_goals first
    | exact rfl
    | skip
  refine loop_at (fun i : Nat => [(51, vint .i64 i)]) (fun _ => []) (fun i => i ≤ 3) (fun i => 3 - i) 0 (by omega) (by repeat' (first | exact trivial | exact rfl | exact ⟨_, rfl, ALe.refl⟩ | refine And.intro ?_ ?_)) (by repeat' (first | exact trivial | exact rfl | exact ⟨_, rfl, ALe.refl⟩ | refine And.intro ?_ ?_)) ?_
  intro i hi
  rcases Nat.lt_or_ge i 3 with hlt | hge
  · repeat' (first | (refine sess_load _ _ _ (by omega) (by omega) (by omega) rfl hlt (fun x hx => ?_)) | refine o1 ?_ | refine o2 ?_ | refine k1 ?_ | refine k2 ?_ | refine k3 ?_ | refine k4 ?_ | refine k6 ?_ | refine k7 ?_ | refine k8 ?_ | refine And.intro ?_ ?_ | exact trivial | refine o3 ?_ | refine o4 ?_ | refine o5 ?_ | refine o6 ?_ | refine k5 ?_ | (intro h; first | exact Bool.noConfusion h | exact nz _ h | exact nl h | (simp at h; done) | (simp at h; first | (exfalso; omega) | skip) | skip) | (change retOk _ _ _ _; refine ret_pure rfl trivial ?_) | exact (rfl : allOne _ = true) | (refine (?_ : (0 : Int) ≤ _); omega) | (refine (?_ : _ ≠ _); omega) | (refine (?_ : srcLen _ = rowsLen _); rfl) | exact Nat.le_of_ble_eq_true rfl | exact (by kernel_rfl : drawOk _ _ = true) | refine eqv_len_map ?_ | refine eqv_size ?_ | refine eqv_put (eqv_ck ?_) | refine eqv_zero ?_ | refine eqv_wrap (by omega) (by omega) ?_ | refine eqv_u64 (by omega) (by omega) ?_ | refine eqv_u8 (by omega) (by omega) ?_ | refine eqv_to _ (set_map rfl rfl) ?_ | refine ⟨_, _, (by first | rfl | assumption), at_map (by assumption), ?_⟩ | refine ⟨_, _, (by first | rfl | assumption), (by assumption), ?_⟩ | refine ⟨_, at_map (by assumption), (by decide), ?_⟩ | refine ⟨_, at_map (by assumption), ?_⟩ | (refine (?_ : _ ≤ 140737488355328); simp [rowsLen] <;> omega) | (refine (?_ : _ ≤ 9223372036854775807); simp [rowsLen] <;> omega) | (refine (?_ : _ = rowsLen _); simp [rowsLen] <;> omega) | refine eqv_to _ (app_row rfl) (eqv_to _ app_len ?_) | refine eqv_to _ (app_first rfl) (eqv_to 1 rfl ?_) | refine idx_sl (at_map (by assumption)) (by omega) ?_ | refine idx_ms _ (by first | rfl | assumption) (by first | assumption | omega) ?_ | fail)
    refine loop_at (fun k : Nat => [(59, vint .i64 k)]) (fun _ => []) (fun k => k ≤ 3) (fun k => 3 - k) 0 (by omega) (by repeat' (first | exact trivial | exact rfl | exact ⟨_, rfl, ALe.refl⟩ | refine And.intro ?_ ?_)) (by repeat' (first | exact trivial | exact rfl | exact ⟨_, rfl, ALe.refl⟩ | refine And.intro ?_ ?_)) ?_
    intro k hk
    rcases Nat.lt_or_ge k 3 with hkt | hkg
    · repeat' (first | (refine int_load _ _ _ rfl hkt (fun n => ?_)) | ((change vcFun _ _ _ _ _; refine call_norm34 (by omega) ?_)) | ((change vcFun _ _ _ _ _; refine call_rnorm (by omega) ?_)) | ((change vcFun _ _ _ _ _; refine call_eq rfl (by repeat' (first | trivial | refine And.intro ?_ ?_ | (show 0 + _ ≤ List.length _; simp))) ALeL.refl (c_valid x n (by omega)) rfl ?_)) | ((change vcFun _ _ _ _ _; refine call_eq rfl (by repeat' (first | trivial | refine And.intro ?_ ?_ | (show 0 + _ ≤ List.length _; simp))) ALeL.refl (c_rvalid x n (by omega)) rfl ?_)) | ((change vcFun _ _ _ _ _; refine call_eq rfl (by repeat' (first | trivial | refine And.intro ?_ ?_ | (show 0 + _ ≤ List.length _; simp))) ALeL.refl (c_sameT _ normA_len) rfl ?_)) | ((change vcFun _ _ _ _ _; refine call_eq rfl (by repeat' (first | trivial | refine And.intro ?_ ?_ | (show 0 + _ ≤ List.length _; simp))) ALeL.refl (c_valid (normV x n) n normA_len) rfl ?_)) | refine o1 ?_ | refine o2 ?_ | refine k1 ?_ | refine k2 ?_ | refine k3 ?_ | refine k4 ?_ | refine k6 ?_ | refine k7 ?_ | refine k8 ?_ | refine And.intro ?_ ?_ | exact trivial | refine o3 ?_ | refine o4 ?_ | refine o5 ?_ | refine o6 ?_ | refine k5 ?_ | (intro h; first | exact Bool.noConfusion h | exact nz _ h | exact nl h | (simp at h; done) | (simp at h; first | (exfalso; omega) | skip) | skip) | (change retOk _ _ _ _; refine ret_pure rfl trivial ?_) | exact (rfl : allOne _ = true) | (refine (?_ : (0 : Int) ≤ _); omega) | (refine (?_ : _ ≠ _); omega) | (refine (?_ : srcLen _ = rowsLen _); rfl) | exact Nat.le_of_ble_eq_true rfl | exact (by kernel_rfl : drawOk _ _ = true) | refine eqv_len_map ?_ | refine eqv_size ?_ | refine eqv_put (eqv_ck ?_) | refine eqv_zero ?_ | refine eqv_wrap (by omega) (by omega) ?_ | refine eqv_u64 (by omega) (by omega) ?_ | refine eqv_u8 (by omega) (by omega) ?_ | refine eqv_to _ (set_map rfl rfl) ?_ | refine ⟨_, _, (by first | rfl | assumption), at_map (by assumption), ?_⟩ | refine ⟨_, _, (by first | rfl | assumption), (by assumption), ?_⟩ | refine ⟨_, at_map (by assumption), (by decide), ?_⟩ | refine ⟨_, at_map (by assumption), ?_⟩ | (refine (?_ : _ ≤ 140737488355328); simp [rowsLen] <;> omega) | (refine (?_ : _ ≤ 9223372036854775807); simp [rowsLen] <;> omega) | (refine (?_ : _ = rowsLen _); simp [rowsLen] <;> omega) | refine eqv_to _ (app_row rfl) (eqv_to _ app_len ?_) | refine eqv_to _ (app_first rfl) (eqv_to 1 rfl ?_) | refine idx_sl (at_map (by assumption)) (by omega) ?_ | refine idx_ms _ (by first | rfl | assumption) (by first | assumption | omega) ?_ | fail)
      all_goals first
        | exact absurd (norm_valid (by assumption)) (by assumption)
        | exact ⟨k + 1, by omega, by omega, back [0, 1, 2, 3] rfl rfl ⟨rfl, rfl, rfl, rfl, trivial⟩ (by repeat' (first | exact trivial | exact rfl | exact ⟨_, rfl, ALe.refl⟩ | refine And.intro ?_ ?_))⟩
    · repeat' (first | refine o1 ?_ | refine o2 ?_ | refine k1 ?_ | refine k2 ?_ | refine k3 ?_ | refine k4 ?_ | refine k6 ?_ | refine k7 ?_ | refine k8 ?_ | refine And.intro ?_ ?_ | exact trivial | refine o3 ?_ | refine o4 ?_ | refine o5 ?_ | refine o6 ?_ | refine k5 ?_ | (intro h; first | exact Bool.noConfusion h | exact nz _ h | exact nl h | (simp at h; done) | (simp at h; first | (exfalso; omega) | skip) | skip) | (change retOk _ _ _ _; refine ret_pure rfl trivial ?_) | exact (rfl : allOne _ = true) | (refine (?_ : (0 : Int) ≤ _); omega) | (refine (?_ : _ ≠ _); omega) | (refine (?_ : srcLen _ = rowsLen _); rfl) | exact Nat.le_of_ble_eq_true rfl | exact (by kernel_rfl : drawOk _ _ = true) | refine eqv_len_map ?_ | refine eqv_size ?_ | refine eqv_put (eqv_ck ?_) | refine eqv_zero ?_ | refine eqv_wrap (by omega) (by omega) ?_ | refine eqv_u64 (by omega) (by omega) ?_ | refine eqv_u8 (by omega) (by omega) ?_ | refine eqv_to _ (set_map rfl rfl) ?_ | refine ⟨_, _, (by first | rfl | assumption), at_map (by assumption), ?_⟩ | refine ⟨_, _, (by first | rfl | assumption), (by assumption), ?_⟩ | refine ⟨_, at_map (by assumption), (by decide), ?_⟩ | refine ⟨_, at_map (by assumption), ?_⟩ | (refine (?_ : _ ≤ 140737488355328); simp [rowsLen] <;> omega) | (refine (?_ : _ ≤ 9223372036854775807); simp [rowsLen] <;> omega) | (refine (?_ : _ = rowsLen _); simp [rowsLen] <;> omega) | refine eqv_to _ (app_row rfl) (eqv_to _ app_len ?_) | refine eqv_to _ (app_first rfl) (eqv_to 1 rfl ?_) | refine idx_sl (at_map (by assumption)) (by omega) ?_ | refine idx_ms _ (by first | rfl | assumption) (by first | assumption | omega) ?_ | fail)
      refine loop_at (fun j : Nat => [(106, vint .i64 j)]) (fun _ => []) (fun j => j ≤ 3) (fun j => 3 - j) 0 (by omega) (by repeat' (first | exact trivial | exact rfl | exact ⟨_, rfl, ALe.refl⟩ | refine And.intro ?_ ?_)) (by repeat' (first | exact trivial | exact rfl | exact ⟨_, rfl, ALe.refl⟩ | refine And.intro ?_ ?_)) ?_
      intro j hj
      rcases Nat.lt_or_ge j 3 with hjt | hjg
      · repeat' (first | ((refine str_load _ _ _ rfl hjt (fun n => ?_); rcases e1 : atO x n wk with _ | s1 <;> rcases e2 : atO x n (bits .and .i64 wk 7) with _ | s2)) | (refine (eqv_rfl ?_ : eqv (bits _ _ _ _) _)) | ((change vcFun _ _ _ _ _; refine call_at34 (by omega) ?_; first | rw [e1] | rw [e2])) | ((change vcFun _ _ _ _ _; refine call_rat34 (by omega) (by first | exact hwk | exact and_range) ?_; first | rw [e1] | rw [e2])) | refine o1 ?_ | refine o2 ?_ | refine k1 ?_ | refine k2 ?_ | refine k3 ?_ | refine k4 ?_ | refine k6 ?_ | refine k7 ?_ | refine k8 ?_ | refine And.intro ?_ ?_ | exact trivial | refine o3 ?_ | refine o4 ?_ | refine o5 ?_ | refine o6 ?_ | refine k5 ?_ | (intro h; first | exact Bool.noConfusion h | exact nz _ h | exact nl h | (simp at h; done) | (simp at h; first | (exfalso; omega) | skip) | skip) | (change retOk _ _ _ _; refine ret_pure rfl trivial ?_) | exact (rfl : allOne _ = true) | (refine (?_ : (0 : Int) ≤ _); omega) | (refine (?_ : _ ≠ _); omega) | (refine (?_ : srcLen _ = rowsLen _); rfl) | exact Nat.le_of_ble_eq_true rfl | exact (by kernel_rfl : drawOk _ _ = true) | refine eqv_len_map ?_ | refine eqv_size ?_ | refine eqv_put (eqv_ck ?_) | refine eqv_zero ?_ | refine eqv_wrap (by omega) (by omega) ?_ | refine eqv_u64 (by omega) (by omega) ?_ | refine eqv_u8 (by omega) (by omega) ?_ | refine eqv_to _ (set_map rfl rfl) ?_ | refine ⟨_, _, (by first | rfl | assumption), at_map (by assumption), ?_⟩ | refine ⟨_, _, (by first | rfl | assumption), (by assumption), ?_⟩ | refine ⟨_, at_map (by assumption), (by decide), ?_⟩ | refine ⟨_, at_map (by assumption), ?_⟩ | (refine (?_ : _ ≤ 140737488355328); simp [rowsLen] <;> omega) | (refine (?_ : _ ≤ 9223372036854775807); simp [rowsLen] <;> omega) | (refine (?_ : _ = rowsLen _); simp [rowsLen] <;> omega) | refine eqv_to _ (app_row rfl) (eqv_to _ app_len ?_) | refine eqv_to _ (app_first rfl) (eqv_to 1 rfl ?_) | refine idx_sl (at_map (by assumption)) (by omega) ?_ | refine idx_ms _ (by first | rfl | assumption) (by first | assumption | omega) ?_ | fail)
        all_goals first
          | exact ⟨j + 1, by omega, by omega, back [0, 1, 2, 3, 4] rfl rfl ⟨rfl, rfl, rfl, rfl, rfl, trivial⟩ (by repeat' (first | exact trivial | exact rfl | exact ⟨_, rfl, ALe.refl⟩ | refine And.intro ?_ ?_))⟩
          | exact (sEq_no (by assumption)).elim
      · repeat' (first | refine o1 ?_ | refine o2 ?_ | refine k1 ?_ | refine k2 ?_ | refine k3 ?_ | refine k4 ?_ | refine k6 ?_ | refine k7 ?_ | refine k8 ?_ | refine And.intro ?_ ?_ | exact trivial | refine o3 ?_ | refine o4 ?_ | refine o5 ?_ | refine o6 ?_ | refine k5 ?_ | (intro h; first | exact Bool.noConfusion h | exact nz _ h | exact nl h | (simp at h; done) | (simp at h; first | (exfalso; omega) | skip) | skip) | (change retOk _ _ _ _; refine ret_pure rfl trivial ?_) | exact (rfl : allOne _ = true) | (refine (?_ : (0 : Int) ≤ _); omega) | (refine (?_ : _ ≠ _); omega) | (refine (?_ : srcLen _ = rowsLen _); rfl) | exact Nat.le_of_ble_eq_true rfl | exact (by kernel_rfl : drawOk _ _ = true) | refine eqv_len_map ?_ | refine eqv_size ?_ | refine eqv_put (eqv_ck ?_) | refine eqv_zero ?_ | refine eqv_wrap (by omega) (by omega) ?_ | refine eqv_u64 (by omega) (by omega) ?_ | refine eqv_u8 (by omega) (by omega) ?_ | refine eqv_to _ (set_map rfl rfl) ?_ | refine ⟨_, _, (by first | rfl | assumption), at_map (by assumption), ?_⟩ | refine ⟨_, _, (by first | rfl | assumption), (by assumption), ?_⟩ | refine ⟨_, at_map (by assumption), (by decide), ?_⟩ | refine ⟨_, at_map (by assumption), ?_⟩ | (refine (?_ : _ ≤ 140737488355328); simp [rowsLen] <;> omega) | (refine (?_ : _ ≤ 9223372036854775807); simp [rowsLen] <;> omega) | (refine (?_ : _ = rowsLen _); simp [rowsLen] <;> omega) | refine eqv_to _ (app_row rfl) (eqv_to _ app_len ?_) | refine eqv_to _ (app_first rfl) (eqv_to 1 rfl ?_) | refine idx_sl (at_map (by assumption)) (by omega) ?_ | refine idx_ms _ (by first | rfl | assumption) (by first | assumption | omega) ?_ | fail)
        exact ⟨i + 1, by omega, by omega, back [0, 1, 2] rfl rfl ⟨rfl, rfl, rfl, trivial⟩ (by repeat' (first | exact trivial | exact rfl | exact ⟨_, rfl, ALe.refl⟩ | refine And.intro ?_ ?_))⟩
  · repeat' (first | refine o1 ?_ | refine o2 ?_ | refine k1 ?_ | refine k2 ?_ | refine k3 ?_ | refine k4 ?_ | refine k6 ?_ | refine k7 ?_ | refine k8 ?_ | refine And.intro ?_ ?_ | exact trivial | refine o3 ?_ | refine o4 ?_ | refine o5 ?_ | refine o6 ?_ | refine k5 ?_ | (intro h; first | exact Bool.noConfusion h | exact nz _ h | exact nl h | (simp at h; done) | (simp at h; first | (exfalso; omega) | skip) | skip) | (change retOk _ _ _ _; refine ret_pure rfl trivial ?_) | exact (rfl : allOne _ = true) | (refine (?_ : (0 : Int) ≤ _); omega) | (refine (?_ : _ ≠ _); omega) | (refine (?_ : srcLen _ = rowsLen _); rfl) | exact Nat.le_of_ble_eq_true rfl | exact (by kernel_rfl : drawOk _ _ = true) | refine eqv_len_map ?_ | refine eqv_size ?_ | refine eqv_put (eqv_ck ?_) | refine eqv_zero ?_ | refine eqv_wrap (by omega) (by omega) ?_ | refine eqv_u64 (by omega) (by omega) ?_ | refine eqv_u8 (by omega) (by omega) ?_ | refine eqv_to _ (set_map rfl rfl) ?_ | refine ⟨_, _, (by first | rfl | assumption), at_map (by assumption), ?_⟩ | refine ⟨_, _, (by first | rfl | assumption), (by assumption), ?_⟩ | refine ⟨_, at_map (by assumption), (by decide), ?_⟩ | refine ⟨_, at_map (by assumption), ?_⟩ | (refine (?_ : _ ≤ 140737488355328); simp [rowsLen] <;> omega) | (refine (?_ : _ ≤ 9223372036854775807); simp [rowsLen] <;> omega) | (refine (?_ : _ = rowsLen _); simp [rowsLen] <;> omega) | refine eqv_to _ (app_row rfl) (eqv_to _ app_len ?_) | refine eqv_to _ (app_first rfl) (eqv_to 1 rfl ?_) | refine idx_sl (at_map (by assumption)) (by omega) ?_ | refine idx_ms _ (by first | rfl | assumption) (by first | assumption | omega) ?_ | (change vcFun _ _ _ _ _; refine call_eq rfl (by repeat' (first | trivial | refine And.intro ?_ ?_ | (show 0 + _ ≤ List.length _; simp))) ALeL.refl (awake_ok) rfl ?_) | (change vcFunD _ _ _ _ _; refine callD_eq rfl (by repeat' (first | trivial | refine And.intro ?_ ?_ | (show 0 + _ ≤ List.length _; simp))) ALeL.refl (awake_ok) rfl ?_) | fail)
    exact rfl
end Go.Proofs.YtbcacaodfpgflaaDoor.Cw

/-
  Laws: ChangesHeld.
-/
namespace Go.Proofs.YtbcacaodfpgflaaDoor.Cw
open Go Go.Cw Go.Proofs
set_option linter.unusedVariables false
set_option maxRecDepth 100000
set_option maxHeartbeats 8000000

theorem rem9 {i : Int} {K : Int → Prop} (hi : 0 ≤ i) (h : ∀ v : Int, 0 ≤ v → v < 9 → K v) : eqv (i.tmod 9) K :=
  ⟨_, rfl, h _ (by rw [Int.tmod_eq_emod_of_nonneg hi]; omega) (by rw [Int.tmod_eq_emod_of_nonneg hi]; omega)⟩
theorem str_load4 {L : List (List PV)} {k : Nat} {C : List PV → Prop} (x y z u : Str) (hL : L = [[es x], [es y], [es z], [es u]]) (hk : k < 4) (h : ∀ l : Str, C [es l]) : ∃ r, L[k]? = some r ∧ C r := by
  subst hL
  match k, hk with
  | 0, _ => exact ⟨_, rfl, h _⟩
  | 1, _ => exact ⟨_, rfl, h _⟩
  | 2, _ => exact ⟨_, rfl, h _⟩
  | 3, _ => exact ⟨_, rfl, h _⟩
theorem alike_no {s t : Sess} (h : sameO (some s) (some t)) (k : sEq s.cls t.cls = false ∨ (¬s.time.day = t.time.day ∨ ¬s.time.start = t.time.start ∨ ¬s.time.len = t.time.len) ∨ sEq s.room t.room = false) : False := by
  obtain ⟨h1, h2, h3, h4, h5⟩ : alikeP s t := h
  rw [h1, h5, sEq_self, sEq_self] at k
  rcases k with k | (k | k | k) | k
  · cases k
  · exact k h2
  · exact k h3
  · exact k h4
  · cases k
theorem c_helds (t : List Int) (wk : Int) (hwk : 0 ≤ wk ∧ wk ≤ 255) : PCall Tryd.prog 5 [.pv (encInts t), vint .u8 wk] (fun r => r = vbool true) := by
  have hL := c_light t
  refine acall_of tok mixed 97 rfl (fn := Tryd.f5) (c := Tryd.f5.body.getD .skip) (by kernel_rfl) (by kernel_rfl) (by kernel_rfl) rfl 0 rfl ?_
  repeat' (first | ((change vcFun _ _ _ _ _; refine call_new [.pv (encInts t)] rfl (c_roll t) (fun _ _ => rfl) ?_)) | ((change vcFun _ _ _ _ _; refine call_lists 1 rfl (by assumption) ?_; intro w a b c kq ha hb hc hkq)) | (refine rem9 hwk.1 (fun v hv1 hv2 => ?_)) | (refine ⟨0, rfl, Nat.le_of_ble_eq_true rfl, ?_⟩) | (refine ⟨1, rfl, Nat.le_of_ble_eq_true rfl, ?_⟩) | ((change vcFun _ _ _ _ _; refine call_splice (by omega) (by omega) ?_)) | refine o1 ?_ | refine o2 ?_ | refine k1 ?_ | refine k2 ?_ | refine k3 ?_ | refine k4 ?_ | refine k6 ?_ | refine k7 ?_ | refine k8 ?_ | refine And.intro ?_ ?_ | exact trivial | refine o3 ?_ | refine o4 ?_ | refine o5 ?_ | refine o6 ?_ | refine k5 ?_ | (intro h; first | exact Bool.noConfusion h | exact nz _ h | exact nl h | (simp at h; done) | (simp at h; first | (exfalso; omega) | skip) | skip) | (change retOk _ _ _ _; refine ret_pure rfl trivial ?_) | exact (rfl : allOne _ = true) | (refine (?_ : (0 : Int) ≤ _); omega) | (refine (?_ : _ ≠ _); omega) | (refine (?_ : srcLen _ = rowsLen _); rfl) | exact Nat.le_of_ble_eq_true rfl | exact (by kernel_rfl : drawOk _ _ = true) | refine eqv_len_map ?_ | refine eqv_size ?_ | refine eqv_put (eqv_ck ?_) | refine eqv_zero ?_ | refine eqv_wrap (by omega) (by omega) ?_ | refine eqv_u64 (by omega) (by omega) ?_ | refine eqv_u8 (by omega) (by omega) ?_ | refine eqv_to _ (set_map rfl rfl) ?_ | refine ⟨_, _, (by first | rfl | assumption), at_map (by assumption), ?_⟩ | refine ⟨_, _, (by first | rfl | assumption), (by assumption), ?_⟩ | refine ⟨_, at_map (by assumption), (by decide), ?_⟩ | refine ⟨_, at_map (by assumption), ?_⟩ | (refine (?_ : _ ≤ 140737488355328); simp [rowsLen] <;> omega) | (refine (?_ : _ ≤ 9223372036854775807); simp [rowsLen] <;> omega) | (refine (?_ : _ = rowsLen _); simp [rowsLen] <;> omega) | refine eqv_to _ (app_row rfl) (eqv_to _ app_len ?_) | refine eqv_to _ (app_first rfl) (eqv_to 1 rfl ?_) | refine idx_sl (at_map (by assumption)) (by omega) ?_ | refine idx_ms _ (by first | rfl | assumption) (by first | assumption | omega) ?_ | (change vcFun _ _ _ _ _; refine call_eq rfl (by repeat' (first | trivial | refine And.intro ?_ ?_ | (show 0 + _ ≤ List.length _; simp))) ALeL.refl (hL) rfl ?_) | (change vcFun _ _ _ _ _; refine call_eq rfl (by repeat' (first | trivial | refine And.intro ?_ ?_ | (show 0 + _ ≤ List.length _; simp))) ALeL.refl (awake_ok) rfl ?_) | fail)
  all_goals first
    | exact rfl
    | skip
  have hs : splE a b w (v + 1) = 0 := by assumption
  have hv := spl_valid hs
  obtain ⟨hw1, hw2⟩ := (valid_parts hv).1
  have hsp := fun (i : Int) hi c => spl_held hs (i := i) hi (c := c)
  have hxl := splV_len (a := a) (b := b) (w := w) (k := v + 1)
  have hxs : (splV a b w (v + 1)).length ≤ 96 := (valid_parts hv).2.1
  rw [hs]
  generalize splV a b w (v + 1) = X at *
  have hva := c_valid X w (by omega)
  rw [hv] at hva
  obtain ⟨n, rfl⟩ := Int.eq_ofNat_of_zero_le (show 0 ≤ w by omega)
  refine loop_at (fun i : Nat => [(10, vint .i64 (i + 1 : Nat))]) (fun _ => []) (fun i => i ≤ n) (fun i => n - i) 0 (by omega) (by repeat' (first | exact trivial | exact rfl | exact ⟨_, rfl, ALe.refl⟩ | refine And.intro ?_ ?_)) (by repeat' (first | exact trivial | exact rfl | exact ⟨_, rfl, ALe.refl⟩ | refine And.intro ?_ ?_)) ?_
  intro i hi
  by_cases hin : i < n
  · have hall := hsp ((i + 1 : Nat) : Int) ⟨by omega, by omega⟩
    by_cases hik : ((i + 1 : Nat) : Int) < v + 1
    · rw [if_pos hik] at hall
      repeat' (first | refine o1 ?_ | refine o2 ?_ | refine k1 ?_ | refine k2 ?_ | refine k3 ?_ | refine k4 ?_ | refine k6 ?_ | refine k7 ?_ | refine k8 ?_ | refine And.intro ?_ ?_ | exact trivial | refine o3 ?_ | refine o4 ?_ | refine o5 ?_ | refine o6 ?_ | refine k5 ?_ | (intro h; first | exact Bool.noConfusion h | exact nz _ h | exact nl h | (simp at h; done) | (simp at h; first | (exfalso; omega) | skip) | skip) | (change retOk _ _ _ _; refine ret_pure rfl trivial ?_) | exact (rfl : allOne _ = true) | (refine (?_ : (0 : Int) ≤ _); omega) | (refine (?_ : _ ≠ _); omega) | (refine (?_ : srcLen _ = rowsLen _); rfl) | exact Nat.le_of_ble_eq_true rfl | exact (by kernel_rfl : drawOk _ _ = true) | refine eqv_len_map ?_ | refine eqv_size ?_ | refine eqv_put (eqv_ck ?_) | refine eqv_zero ?_ | refine eqv_wrap (by omega) (by omega) ?_ | refine eqv_u64 (by omega) (by omega) ?_ | refine eqv_u8 (by omega) (by omega) ?_ | refine eqv_to _ (set_map rfl rfl) ?_ | refine ⟨_, _, (by first | rfl | assumption), at_map (by assumption), ?_⟩ | refine ⟨_, _, (by first | rfl | assumption), (by assumption), ?_⟩ | refine ⟨_, at_map (by assumption), (by decide), ?_⟩ | refine ⟨_, at_map (by assumption), ?_⟩ | (refine (?_ : _ ≤ 140737488355328); simp [rowsLen] <;> omega) | (refine (?_ : _ ≤ 9223372036854775807); simp [rowsLen] <;> omega) | (refine (?_ : _ = rowsLen _); simp [rowsLen] <;> omega) | refine eqv_to _ (app_row rfl) (eqv_to _ app_len ?_) | refine eqv_to _ (app_first rfl) (eqv_to 1 rfl ?_) | refine idx_sl (at_map (by assumption)) (by omega) ?_ | refine idx_ms _ (by first | rfl | assumption) (by first | assumption | omega) ?_ | fail)
      refine loop_at (fun j : Nat => [(52, vint .i64 j)]) (fun _ => []) (fun j => j ≤ 4) (fun j => 4 - j) 0 (by omega) (by repeat' (first | exact trivial | exact rfl | exact ⟨_, rfl, ALe.refl⟩ | refine And.intro ?_ ?_)) (by repeat' (first | exact trivial | exact rfl | exact ⟨_, rfl, ALe.refl⟩ | refine And.intro ?_ ?_)) ?_
      intro j hj
      rcases Nat.lt_or_ge j 4 with hjt | hjg
      · repeat' (first | ((refine str_load4 _ _ _ _ rfl hjt (fun m => ?_); have hsm := hall m; rcases e1 : atO X m ((i + 1 : Nat) : Int) with _ | s1 <;> rcases e2 : atO a m ((i + 1 : Nat) : Int) with _ | s2 <;> rw [e1, e2] at hsm <;> try exact hsm.elim)) | (refine ⟨0, rfl, Nat.le_of_ble_eq_true rfl, ?_⟩) | (refine ⟨1, rfl, Nat.le_of_ble_eq_true rfl, ?_⟩) | ((change vcFun _ _ _ _ _; refine call_at34 (by omega) ?_; first | rw [e1] | rw [e2])) | refine o1 ?_ | refine o2 ?_ | refine k1 ?_ | refine k2 ?_ | refine k3 ?_ | refine k4 ?_ | refine k6 ?_ | refine k7 ?_ | refine k8 ?_ | refine And.intro ?_ ?_ | exact trivial | refine o3 ?_ | refine o4 ?_ | refine o5 ?_ | refine o6 ?_ | refine k5 ?_ | (intro h; first | exact Bool.noConfusion h | exact nz _ h | exact nl h | (simp at h; done) | (simp at h; first | (exfalso; omega) | skip) | skip) | (change retOk _ _ _ _; refine ret_pure rfl trivial ?_) | exact (rfl : allOne _ = true) | (refine (?_ : (0 : Int) ≤ _); omega) | (refine (?_ : _ ≠ _); omega) | (refine (?_ : srcLen _ = rowsLen _); rfl) | exact Nat.le_of_ble_eq_true rfl | exact (by kernel_rfl : drawOk _ _ = true) | refine eqv_len_map ?_ | refine eqv_size ?_ | refine eqv_put (eqv_ck ?_) | refine eqv_zero ?_ | refine eqv_wrap (by omega) (by omega) ?_ | refine eqv_u64 (by omega) (by omega) ?_ | refine eqv_u8 (by omega) (by omega) ?_ | refine eqv_to _ (set_map rfl rfl) ?_ | refine ⟨_, _, (by first | rfl | assumption), at_map (by assumption), ?_⟩ | refine ⟨_, _, (by first | rfl | assumption), (by assumption), ?_⟩ | refine ⟨_, at_map (by assumption), (by decide), ?_⟩ | refine ⟨_, at_map (by assumption), ?_⟩ | (refine (?_ : _ ≤ 140737488355328); simp [rowsLen] <;> omega) | (refine (?_ : _ ≤ 9223372036854775807); simp [rowsLen] <;> omega) | (refine (?_ : _ = rowsLen _); simp [rowsLen] <;> omega) | refine eqv_to _ (app_row rfl) (eqv_to _ app_len ?_) | refine eqv_to _ (app_first rfl) (eqv_to 1 rfl ?_) | refine idx_sl (at_map (by assumption)) (by omega) ?_ | refine idx_ms _ (by first | rfl | assumption) (by first | assumption | omega) ?_ | fail)
        all_goals first
          | exact ⟨j + 1, by omega, by omega, back [0, 1, 2] rfl rfl ⟨rfl, rfl, rfl, trivial⟩ (by repeat' (first | exact trivial | exact rfl | exact ⟨_, rfl, ALe.refl⟩ | refine And.intro ?_ ?_))⟩
          | exact (alike_no hsm (by assumption)).elim
      · repeat' (first | refine o1 ?_ | refine o2 ?_ | refine k1 ?_ | refine k2 ?_ | refine k3 ?_ | refine k4 ?_ | refine k6 ?_ | refine k7 ?_ | refine k8 ?_ | refine And.intro ?_ ?_ | exact trivial | refine o3 ?_ | refine o4 ?_ | refine o5 ?_ | refine o6 ?_ | refine k5 ?_ | (intro h; first | exact Bool.noConfusion h | exact nz _ h | exact nl h | (simp at h; done) | (simp at h; first | (exfalso; omega) | skip) | skip) | (change retOk _ _ _ _; refine ret_pure rfl trivial ?_) | exact (rfl : allOne _ = true) | (refine (?_ : (0 : Int) ≤ _); omega) | (refine (?_ : _ ≠ _); omega) | (refine (?_ : srcLen _ = rowsLen _); rfl) | exact Nat.le_of_ble_eq_true rfl | exact (by kernel_rfl : drawOk _ _ = true) | refine eqv_len_map ?_ | refine eqv_size ?_ | refine eqv_put (eqv_ck ?_) | refine eqv_zero ?_ | refine eqv_wrap (by omega) (by omega) ?_ | refine eqv_u64 (by omega) (by omega) ?_ | refine eqv_u8 (by omega) (by omega) ?_ | refine eqv_to _ (set_map rfl rfl) ?_ | refine ⟨_, _, (by first | rfl | assumption), at_map (by assumption), ?_⟩ | refine ⟨_, _, (by first | rfl | assumption), (by assumption), ?_⟩ | refine ⟨_, at_map (by assumption), (by decide), ?_⟩ | refine ⟨_, at_map (by assumption), ?_⟩ | (refine (?_ : _ ≤ 140737488355328); simp [rowsLen] <;> omega) | (refine (?_ : _ ≤ 9223372036854775807); simp [rowsLen] <;> omega) | (refine (?_ : _ = rowsLen _); simp [rowsLen] <;> omega) | refine eqv_to _ (app_row rfl) (eqv_to _ app_len ?_) | refine eqv_to _ (app_first rfl) (eqv_to 1 rfl ?_) | refine idx_sl (at_map (by assumption)) (by omega) ?_ | refine idx_ms _ (by first | rfl | assumption) (by first | assumption | omega) ?_ | fail)
        exact ⟨i + 1, by omega, by omega, back [0, 1] rfl rfl ⟨rfl, rfl, trivial⟩ (by repeat' (first | exact trivial | exact rfl | exact ⟨_, rfl, ALe.refl⟩ | refine And.intro ?_ ?_))⟩
    · rw [if_neg hik] at hall
      repeat' (first | refine o1 ?_ | refine o2 ?_ | refine k1 ?_ | refine k2 ?_ | refine k3 ?_ | refine k4 ?_ | refine k6 ?_ | refine k7 ?_ | refine k8 ?_ | refine And.intro ?_ ?_ | exact trivial | refine o3 ?_ | refine o4 ?_ | refine o5 ?_ | refine o6 ?_ | refine k5 ?_ | (intro h; first | exact Bool.noConfusion h | exact nz _ h | exact nl h | (simp at h; done) | (simp at h; first | (exfalso; omega) | skip) | skip) | (change retOk _ _ _ _; refine ret_pure rfl trivial ?_) | exact (rfl : allOne _ = true) | (refine (?_ : (0 : Int) ≤ _); omega) | (refine (?_ : _ ≠ _); omega) | (refine (?_ : srcLen _ = rowsLen _); rfl) | exact Nat.le_of_ble_eq_true rfl | exact (by kernel_rfl : drawOk _ _ = true) | refine eqv_len_map ?_ | refine eqv_size ?_ | refine eqv_put (eqv_ck ?_) | refine eqv_zero ?_ | refine eqv_wrap (by omega) (by omega) ?_ | refine eqv_u64 (by omega) (by omega) ?_ | refine eqv_u8 (by omega) (by omega) ?_ | refine eqv_to _ (set_map rfl rfl) ?_ | refine ⟨_, _, (by first | rfl | assumption), at_map (by assumption), ?_⟩ | refine ⟨_, _, (by first | rfl | assumption), (by assumption), ?_⟩ | refine ⟨_, at_map (by assumption), (by decide), ?_⟩ | refine ⟨_, at_map (by assumption), ?_⟩ | (refine (?_ : _ ≤ 140737488355328); simp [rowsLen] <;> omega) | (refine (?_ : _ ≤ 9223372036854775807); simp [rowsLen] <;> omega) | (refine (?_ : _ = rowsLen _); simp [rowsLen] <;> omega) | refine eqv_to _ (app_row rfl) (eqv_to _ app_len ?_) | refine eqv_to _ (app_first rfl) (eqv_to 1 rfl ?_) | refine idx_sl (at_map (by assumption)) (by omega) ?_ | refine idx_ms _ (by first | rfl | assumption) (by first | assumption | omega) ?_ | fail)
      refine loop_at (fun j : Nat => [(52, vint .i64 j)]) (fun _ => []) (fun j => j ≤ 4) (fun j => 4 - j) 0 (by omega) (by repeat' (first | exact trivial | exact rfl | exact ⟨_, rfl, ALe.refl⟩ | refine And.intro ?_ ?_)) (by repeat' (first | exact trivial | exact rfl | exact ⟨_, rfl, ALe.refl⟩ | refine And.intro ?_ ?_)) ?_
      intro j hj
      rcases Nat.lt_or_ge j 4 with hjt | hjg
      · repeat' (first | ((refine str_load4 _ _ _ _ rfl hjt (fun m => ?_); have hsm := hall m; rcases e1 : atO X m ((i + 1 : Nat) : Int) with _ | s1 <;> rcases e2 : atO b m ((i + 1 : Nat) : Int) with _ | s2 <;> rw [e1, e2] at hsm <;> try exact hsm.elim)) | (refine ⟨0, rfl, Nat.le_of_ble_eq_true rfl, ?_⟩) | (refine ⟨1, rfl, Nat.le_of_ble_eq_true rfl, ?_⟩) | ((change vcFun _ _ _ _ _; refine call_at34 (by omega) ?_; first | rw [e1] | rw [e2])) | refine o1 ?_ | refine o2 ?_ | refine k1 ?_ | refine k2 ?_ | refine k3 ?_ | refine k4 ?_ | refine k6 ?_ | refine k7 ?_ | refine k8 ?_ | refine And.intro ?_ ?_ | exact trivial | refine o3 ?_ | refine o4 ?_ | refine o5 ?_ | refine o6 ?_ | refine k5 ?_ | (intro h; first | exact Bool.noConfusion h | exact nz _ h | exact nl h | (simp at h; done) | (simp at h; first | (exfalso; omega) | skip) | skip) | (change retOk _ _ _ _; refine ret_pure rfl trivial ?_) | exact (rfl : allOne _ = true) | (refine (?_ : (0 : Int) ≤ _); omega) | (refine (?_ : _ ≠ _); omega) | (refine (?_ : srcLen _ = rowsLen _); rfl) | exact Nat.le_of_ble_eq_true rfl | exact (by kernel_rfl : drawOk _ _ = true) | refine eqv_len_map ?_ | refine eqv_size ?_ | refine eqv_put (eqv_ck ?_) | refine eqv_zero ?_ | refine eqv_wrap (by omega) (by omega) ?_ | refine eqv_u64 (by omega) (by omega) ?_ | refine eqv_u8 (by omega) (by omega) ?_ | refine eqv_to _ (set_map rfl rfl) ?_ | refine ⟨_, _, (by first | rfl | assumption), at_map (by assumption), ?_⟩ | refine ⟨_, _, (by first | rfl | assumption), (by assumption), ?_⟩ | refine ⟨_, at_map (by assumption), (by decide), ?_⟩ | refine ⟨_, at_map (by assumption), ?_⟩ | (refine (?_ : _ ≤ 140737488355328); simp [rowsLen] <;> omega) | (refine (?_ : _ ≤ 9223372036854775807); simp [rowsLen] <;> omega) | (refine (?_ : _ = rowsLen _); simp [rowsLen] <;> omega) | refine eqv_to _ (app_row rfl) (eqv_to _ app_len ?_) | refine eqv_to _ (app_first rfl) (eqv_to 1 rfl ?_) | refine idx_sl (at_map (by assumption)) (by omega) ?_ | refine idx_ms _ (by first | rfl | assumption) (by first | assumption | omega) ?_ | fail)
        all_goals first
          | exact ⟨j + 1, by omega, by omega, back [0, 1, 2] rfl rfl ⟨rfl, rfl, rfl, trivial⟩ (by repeat' (first | exact trivial | exact rfl | exact ⟨_, rfl, ALe.refl⟩ | refine And.intro ?_ ?_))⟩
          | exact (alike_no hsm (by assumption)).elim
      · repeat' (first | refine o1 ?_ | refine o2 ?_ | refine k1 ?_ | refine k2 ?_ | refine k3 ?_ | refine k4 ?_ | refine k6 ?_ | refine k7 ?_ | refine k8 ?_ | refine And.intro ?_ ?_ | exact trivial | refine o3 ?_ | refine o4 ?_ | refine o5 ?_ | refine o6 ?_ | refine k5 ?_ | (intro h; first | exact Bool.noConfusion h | exact nz _ h | exact nl h | (simp at h; done) | (simp at h; first | (exfalso; omega) | skip) | skip) | (change retOk _ _ _ _; refine ret_pure rfl trivial ?_) | exact (rfl : allOne _ = true) | (refine (?_ : (0 : Int) ≤ _); omega) | (refine (?_ : _ ≠ _); omega) | (refine (?_ : srcLen _ = rowsLen _); rfl) | exact Nat.le_of_ble_eq_true rfl | exact (by kernel_rfl : drawOk _ _ = true) | refine eqv_len_map ?_ | refine eqv_size ?_ | refine eqv_put (eqv_ck ?_) | refine eqv_zero ?_ | refine eqv_wrap (by omega) (by omega) ?_ | refine eqv_u64 (by omega) (by omega) ?_ | refine eqv_u8 (by omega) (by omega) ?_ | refine eqv_to _ (set_map rfl rfl) ?_ | refine ⟨_, _, (by first | rfl | assumption), at_map (by assumption), ?_⟩ | refine ⟨_, _, (by first | rfl | assumption), (by assumption), ?_⟩ | refine ⟨_, at_map (by assumption), (by decide), ?_⟩ | refine ⟨_, at_map (by assumption), ?_⟩ | (refine (?_ : _ ≤ 140737488355328); simp [rowsLen] <;> omega) | (refine (?_ : _ ≤ 9223372036854775807); simp [rowsLen] <;> omega) | (refine (?_ : _ = rowsLen _); simp [rowsLen] <;> omega) | refine eqv_to _ (app_row rfl) (eqv_to _ app_len ?_) | refine eqv_to _ (app_first rfl) (eqv_to 1 rfl ?_) | refine idx_sl (at_map (by assumption)) (by omega) ?_ | refine idx_ms _ (by first | rfl | assumption) (by first | assumption | omega) ?_ | fail)
        exact ⟨i + 1, by omega, by omega, back [0, 1] rfl rfl ⟨rfl, rfl, trivial⟩ (by repeat' (first | exact trivial | exact rfl | exact ⟨_, rfl, ALe.refl⟩ | refine And.intro ?_ ?_))⟩
  · repeat' (first | refine o1 ?_ | refine o2 ?_ | refine k1 ?_ | refine k2 ?_ | refine k3 ?_ | refine k4 ?_ | refine k6 ?_ | refine k7 ?_ | refine k8 ?_ | refine And.intro ?_ ?_ | exact trivial | refine o3 ?_ | refine o4 ?_ | refine o5 ?_ | refine o6 ?_ | refine k5 ?_ | (intro h; first | exact Bool.noConfusion h | exact nz _ h | exact nl h | (simp at h; done) | (simp at h; first | (exfalso; omega) | skip) | skip) | (change retOk _ _ _ _; refine ret_pure rfl trivial ?_) | exact (rfl : allOne _ = true) | (refine (?_ : (0 : Int) ≤ _); omega) | (refine (?_ : _ ≠ _); omega) | (refine (?_ : srcLen _ = rowsLen _); rfl) | exact Nat.le_of_ble_eq_true rfl | exact (by kernel_rfl : drawOk _ _ = true) | refine eqv_len_map ?_ | refine eqv_size ?_ | refine eqv_put (eqv_ck ?_) | refine eqv_zero ?_ | refine eqv_wrap (by omega) (by omega) ?_ | refine eqv_u64 (by omega) (by omega) ?_ | refine eqv_u8 (by omega) (by omega) ?_ | refine eqv_to _ (set_map rfl rfl) ?_ | refine ⟨_, _, (by first | rfl | assumption), at_map (by assumption), ?_⟩ | refine ⟨_, _, (by first | rfl | assumption), (by assumption), ?_⟩ | refine ⟨_, at_map (by assumption), (by decide), ?_⟩ | refine ⟨_, at_map (by assumption), ?_⟩ | (refine (?_ : _ ≤ 140737488355328); simp [rowsLen] <;> omega) | (refine (?_ : _ ≤ 9223372036854775807); simp [rowsLen] <;> omega) | (refine (?_ : _ = rowsLen _); simp [rowsLen] <;> omega) | refine eqv_to _ (app_row rfl) (eqv_to _ app_len ?_) | refine eqv_to _ (app_first rfl) (eqv_to 1 rfl ?_) | refine idx_sl (at_map (by assumption)) (by omega) ?_ | refine idx_ms _ (by first | rfl | assumption) (by first | assumption | omega) ?_ | (change vcFun _ _ _ _ _; refine call_eq rfl (by repeat' (first | trivial | refine And.intro ?_ ?_ | (show 0 + _ ≤ List.length _; simp))) ALeL.refl (hva) rfl ?_) | (change vcFun _ _ _ _ _; refine call_eq rfl (by repeat' (first | trivial | refine And.intro ?_ ?_ | (show 0 + _ ≤ List.length _; simp))) ALeL.refl (awake_ok) rfl ?_) | fail)
    all_goals rfl
end Go.Proofs.YtbcacaodfpgflaaDoor.Cw

/-
  What the laws of chapter 34 are handed.
-/
namespace Go.Proofs.YtbcacaodfpgflaaDoor.Cw
open Go.Cw Go.Proofs
set_option linter.unusedVariables false
set_option maxRecDepth 100000

theorem in_int {qs : List PV} (h : PTy T 3 qs) : ∃ n : Int, qs = [ei n] ∧ -9223372036854775808 ≤ n ∧ n ≤ 9223372036854775807 := kd_int (by kernel_rfl) h
theorem in_str {qs : List PV} (h : PTy T 9 qs) : ∃ s : Str, qs = [es s] := by
  obtain ⟨s, h, _⟩ := kd_str (by kernel_rfl) h
  exact ⟨s, h⟩
theorem in_int1 {qs : List PV} (h : PTy T 3 qs) : ∃ n : Int, qs = [ei n] := by
  obtain ⟨s, h, _⟩ := in_int h
  exact ⟨s, h⟩
theorem in_ints {qs : List PV} (h : PTy T 23 qs) : ∃ l : List Int, qs = [encInts l] := by
  obtain ⟨l, h, _⟩ := kd_slice (fun s => [ei s]) (fun _ => True) (e := 3) (z := 1) (by kernel_rfl) (fun r hr => by obtain ⟨s, h⟩ := in_int1 hr; exact ⟨s, h, trivial⟩) h
  exact ⟨l, h⟩
theorem in_time {qs : List PV} (h : PTy T 43 qs) : ∃ x : Time, qs = x.row := by
  obtain ⟨_, _, rfl, h1, h⟩ := kd_cons (kd_struct (ts := [3, 3, 3, 3]) (by kernel_rfl) h)
  obtain ⟨_, _, rfl, h2, h⟩ := kd_cons h
  obtain ⟨_, _, rfl, h3, h⟩ := kd_cons h
  obtain ⟨_, _, rfl, h4, h⟩ := kd_cons h
  obtain rfl := kd_nil h
  obtain ⟨a, rfl⟩ := in_int1 h1
  obtain ⟨b, rfl⟩ := in_int1 h2
  obtain ⟨c, rfl⟩ := in_int1 h3
  obtain ⟨d, rfl⟩ := in_int1 h4
  exact ⟨⟨a, b, c, d⟩, rfl⟩
theorem in_sess1 {qs : List PV} (h : PTy T 45 qs) : ∃ x : Sess, qs = x.row := by
  obtain ⟨_, _, rfl, h1, h⟩ := kd_cons (kd_struct (ts := [9, 43, 9]) (by kernel_rfl) h)
  obtain ⟨_, _, rfl, h2, h⟩ := kd_cons h
  obtain ⟨_, _, rfl, h3, h⟩ := kd_cons h
  obtain rfl := kd_nil h
  obtain ⟨a, rfl⟩ := in_str h1
  obtain ⟨b, rfl⟩ := in_time h2
  obtain ⟨c, rfl⟩ := in_str h3
  exact ⟨⟨a, b, c⟩, rfl⟩
theorem in_sess {qs : List PV} (h : PTy T 22 qs) : ∃ l : List Sess, qs = [encSess l] ∧ l.length ≤ 9223372036854775807 := by
  obtain ⟨l, h, hl, _⟩ := kd_slice Sess.row (fun _ => True) (e := 45) (z := 6) (by kernel_rfl) (fun r hr => by obtain ⟨s, h⟩ := in_sess1 hr; exact ⟨s, h, trivial⟩) h
  exact ⟨l, h, hl⟩
theorem args_sess {ts : List TypeId} {al : List AV} (h : ArgsOk T (22 :: ts) al) : ∃ (l : List Sess) (al' : _), al = .pv (encSess l) :: al' ∧ l.length ≤ 9223372036854775807 ∧ ArgsOk T ts al' := by
  obtain ⟨q, al', rfl, h1, h2⟩ := args_one (by kernel_rfl) h
  obtain ⟨l, h, hl⟩ := in_sess h1
  injection h with h; subst h
  exact ⟨l, al', rfl, hl, h2⟩
theorem args_ints {ts : List TypeId} {al : List AV} (h : ArgsOk T (23 :: ts) al) : ∃ (l : List Int) (al' : _), al = .pv (encInts l) :: al' ∧ ArgsOk T ts al' := by
  obtain ⟨q, al', rfl, h1, h2⟩ := args_one (by kernel_rfl) h
  obtain ⟨l, h⟩ := in_ints h1
  injection h with h; subst h
  exact ⟨l, al', rfl, h2⟩
theorem args_int {ts : List TypeId} {al : List AV} (h : ArgsOk T (3 :: ts) al) : ∃ (n : Int) (al' : _), al = vint .i64 n :: al' ∧ -9223372036854775808 ≤ n ∧ n ≤ 9223372036854775807 ∧ ArgsOk T ts al' := by
  obtain ⟨q, al', rfl, h1, h2⟩ := args_one (by kernel_rfl) h
  obtain ⟨n, h, a, b⟩ := in_int h1
  injection h with h; subst h
  exact ⟨n, al', rfl, a, b, h2⟩
theorem args_nil {al : List AV} (h : ArgsOk T [] al) : al = [] := by cases h; rfl
end Go.Proofs.YtbcacaodfpgflaaDoor.Cw

/-
  What the laws of chapter 34 are handed: a byte.
-/
namespace Go.Cw
def u8At (T : Tab) (t : TypeId) : Bool := match look T t with
  | some ⟨_, _, _, .int .u8, _⟩ => true
  | _ => false
theorem kd_u8 {T : Tab} {t : TypeId} {qs : List PV} (hk : u8At T t = true) (h : PTy T t qs) : ∃ n : Int, qs = [.val (.int .u8 n)] ∧ 0 ≤ n ∧ n ≤ 255 := by
  unfold u8At at hk
  cases h with
  | int h hw =>
    rw [h] at hk
    rename_i k _ n
    cases k <;> first | exact ⟨n, rfl, hw.1, hw.2⟩ | cases hk
  | bool h => rw [h] at hk; cases hk
  | str h => rw [h] at hk; cases hk
  | slice h => rw [h] at hk; cases hk
  | struct h => rw [h] at hk; cases hk
end Go.Cw
namespace Go.Proofs.YtbcacaodfpgflaaDoor.Cw
open Go.Cw Go.Proofs
set_option linter.unusedVariables false
set_option maxRecDepth 100000
theorem args_u8 {ts : List TypeId} {al : List AV} (h : ArgsOk T (5 :: ts) al) : ∃ (n : Int) (al' : _), al = vint .u8 n :: al' ∧ 0 ≤ n ∧ n ≤ 255 ∧ ArgsOk T ts al' := by
  obtain ⟨q, al', rfl, h1, h2⟩ := args_one (by kernel_rfl) h
  obtain ⟨n, h, a, b⟩ := kd_u8 (by kernel_rfl) h1
  injection h with h; subst h
  exact ⟨n, al', rfl, a, b, h2⟩
end Go.Proofs.YtbcacaodfpgflaaDoor.Cw

/-
  The tables of math/bits that the cards lay: where they lie, and what they hold. No conditions.
-/
namespace Go.Proofs.YtbcacaodfpgflaaDoor
open Go Go.Cw Go.Proofs
set_option maxRecDepth 100000

def laid2 : List (String × DataW Unit) := [("math/bits.deBruijn32tab", Rows.laid_math_bits_deBruijn32tab), ("math/bits.deBruijn64tab", Rows.laid_math_bits_deBruijn64tab)]
def tab64 : List Int := Go.Lib.deBruijn64tab.map Int.ofNat
theorem tab64_laid : (Rows.laid_math_bits_deBruijn64tab : DataW Unit) = Go.Lib.tabData .u8 tab64 := by kernel_rfl
theorem tab64_vt : VT = [(1, tab64.map fun z => .val (.int .u8 z))] := by kernel_rfl
theorem g64 : Tryd.prog.globalNamed "math/bits.deBruijn64tab" = some 1 := by kernel_rfl
theorem in_heap {w : World} {a : Addr} {v : Value} (h : w.cell? a = some v) : a.block < w.heap.size := by
  unfold World.cell? at h
  split at h
  · rename_i hb; exact (Array.getElem?_eq_some_iff.1 hb).1
  · cases h
theorem gl_of {W : World} (h : laidMetH Tryd.prog laid2 W) : Gl (fun b => b < W.heap.size) W := by
  rw [MakeChecks.laidMetH_plain _ _ _ (by kernel_rfl)] at h
  have h2 : laidMet Tryd.prog [("math/bits.deBruijn64tab", Rows.laid_math_bits_deBruijn64tab)] W := Go.laidMet.tail h
  rw [tab64_laid] at h2
  have ht := Go.Lib.tabIs_of_head (g := 1) (t := 105) (e := 5) (n := 64) g64 (by kernel_rfl) (by kernel_rfl) (by kernel_rfl) (by kernel_rfl) (by kernel_rfl) h2
  have hl : tab64.length = 64 := by kernel_rfl
  intro e he
  rw [tab64_vt] at he
  obtain rfl := List.mem_singleton.1 he
  refine PRel.ia (u := fun j => .int .u8 (tab64.getD j 0)) ?_ (fun j hj => ?_) fun j p hp => ?_
  · exact in_heap (Go.Lib.TabIs.cell ht g64 0 (by rw [hl]; decide))
  · have hj2 : j < tab64.length := by simpa using hj
    refine ⟨?_, rfl⟩
    rw [← Go.Lib.TabIs.cell ht g64 j hj2]
    unfold Addr.add
    split
    · rename_i e; rw [e]
    · simp
  · dsimp only at hp
    rw [List.getElem?_map] at hp
    cases hz : tab64[j]? with
    | none => rw [hz] at hp; cases hp
    | some z =>
      rw [hz] at hp
      cases hp
      have : tab64.getD j 0 = z := by rw [List.getD_eq_getElem?_getD, hz]; rfl
      rw [this]
      exact .val _
end Go.Proofs.YtbcacaodfpgflaaDoor

/-
  What the laws ChangesValid and ChangesHeld share.
-/
