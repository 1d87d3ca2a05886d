/-
  Part 6 of the proof (S4, O2, O3, O4, M1, O5, O6, O7, S5, S6, S7, S8, S9, K2): what later parts use. No conditions.
-/
import Derived.Test.YtmaambipopgdkaaGreatMZ5

/-
  Rules: the reference's Valid.
-/
namespace Go.Proofs.YtmaambipopgdkaaGreat.Cw
open Go.Cw Go.Proofs
set_option linter.unusedVariables false
set_option maxRecDepth 100000
set_option maxHeartbeats 8000000

/-- The first errors of a rule: its own, its times', its rooms'. -/
def ruleOk (u : Rule) (g : Grid) (w : Int) : Prop := weekP g w ∧ codeP u.name ∧ 0 ≤ u.weight ∧ u.weight ≤ 1000 ∧ 1 ≤ u.kind ∧ u.kind ≤ 12 ∧ selsP u ∧ 0 ≤ u.n ∧ u.n ≤ 24 ∧ (numP u.kind ∨ u.n = 0)
open Classical in
noncomputable def rtimeE (u : Rule) (g : Grid) (w : Int) : Int := if u.kind ≠ 10 ∧ (u.times.length : Int) > 0 then 1 else if u.kind = 10 ∧ (u.times.length : Int) = 0 then 16 else if (u.times.length : Int) > 24 then 2 else if ¬ ∀ t ∈ u.times, fitE g w t = 0 then 14 else 0
open Classical in
noncomputable def rroomE (u : Rule) : Int := if u.kind ≠ 11 ∧ (u.rooms.length : Int) > 0 then 1 else if u.kind = 11 ∧ (u.rooms.length : Int) = 0 then 16 else if (u.rooms.length : Int) > 16 then 2 else firstE (roomNE u.rooms) u.rooms.length
theorem ruleE_ok {u : Rule} {g : Grid} {w : Int} (h : ruleOk u g w) : ruleE u g w = if listE u g w ≠ 0 then listE u g w else if u.line < 0 then 3 else 0 := by
  obtain ⟨h1, h2, h3, h4, h5, h6, h7, h8, h9, h10⟩ := h
  unfold ruleE
  rw [if_neg (by simpa using h1), if_neg (by simpa using h2), if_neg (by omega), if_neg (by omega), if_neg (by simpa using h7), if_neg (by rintro (h | h | ⟨h, k⟩) <;> first | omega | (rcases h10 with h10 | h10 <;> first | exact h h10 | exact k h10))]
theorem listE_time {u : Rule} {g : Grid} {w : Int} (h : rtimeE u g w ≠ 0) : listE u g w = rtimeE u g w := by
  unfold rtimeE at h
  unfold listE rtimeE
  by_cases c1 : u.kind ≠ 10 ∧ (u.times.length : Int) > 0
  · rw [if_pos c1, if_pos c1]
  rw [if_neg c1, if_neg c1]
  rw [if_neg c1] at h
  by_cases c2 : u.kind = 10 ∧ (u.times.length : Int) = 0
  · rw [if_pos c2, if_pos c2]
  rw [if_neg c2, if_neg c2]
  rw [if_neg c2] at h
  by_cases c3 : (u.times.length : Int) > 24
  · rw [if_pos c3, if_pos c3]
  rw [if_neg c3, if_neg c3]
  rw [if_neg c3] at h
  by_cases c4 : ¬ ∀ t ∈ u.times, fitE g w t = 0
  · rw [if_pos c4, if_pos c4]
  rw [if_neg c4] at h
  exact absurd rfl h
section
open Classical
variable {u : Rule} {g : Grid} {w : Int}
theorem ru1 (h : ¬ weekP g w) : ruleE u g w = 1 := if_pos h
theorem ru2 (h1 : weekP g w) (h : ¬ codeP u.name) : ruleE u g w = 10 := by unfold ruleE; rw [if_neg (by simpa using h1), if_pos h]
theorem ru3 (h1 : weekP g w) (h2 : codeP u.name) (h : u.weight < 0 ∨ u.weight > 1000) : ruleE u g w = 3 := by unfold ruleE; rw [if_neg (by simpa using h1), if_neg (by simpa using h2), if_pos h]
theorem ru4 (h1 : weekP g w) (h2 : codeP u.name) (h3 : 0 ≤ u.weight) (h4 : u.weight ≤ 1000) (h : u.kind < 1 ∨ u.kind > 12) : ruleE u g w = 1 := by unfold ruleE; rw [if_neg (by simpa using h1), if_neg (by simpa using h2), if_neg (by omega), if_pos h]
theorem ru5 (h1 : weekP g w) (h2 : codeP u.name) (h3 : 0 ≤ u.weight) (h4 : u.weight ≤ 1000) (h5 : 1 ≤ u.kind) (h6 : u.kind ≤ 12) (h : ¬ selsP u) : ruleE u g w = 4 := by unfold ruleE; rw [if_neg (by simpa using h1), if_neg (by simpa using h2), if_neg (by omega), if_neg (by omega), if_pos h]
theorem ru6 (h1 : weekP g w) (h2 : codeP u.name) (h3 : 0 ≤ u.weight) (h4 : u.weight ≤ 1000) (h5 : 1 ≤ u.kind) (h6 : u.kind ≤ 12) (h7 : selsP u) (h : u.n < 0 ∨ u.n > 24 ∨ (¬ numP u.kind ∧ u.n ≠ 0)) : ruleE u g w = 3 := by unfold ruleE; rw [if_neg (by simpa using h1), if_neg (by simpa using h2), if_neg (by omega), if_neg (by omega), if_neg (by simpa using h7), if_pos h]
theorem sels6 (h1 : selP u.first) (h2 : u.kind = 6) (h3 : selP u.second) : selsP u := ⟨h1, fun _ => h3, fun h => absurd h2 h⟩
theorem selsN (h1 : selP u.first) (h2 : ¬ u.kind = 6) (h3 : u.second.kind = 0 ∧ u.second.name = ⟨#[]⟩ ∧ u.second.kids = []) : selsP u := ⟨h1, fun h => absurd h h2, fun _ => h3⟩
theorem rt1 (h : ¬ u.kind = 10) (h2 : 0 < u.times.length) : rtimeE u g w = 1 := if_pos ⟨h, by omega⟩
theorem rt16 (h : u.kind = 10) (h2 : u.times = []) : rtimeE u g w = 16 := by unfold rtimeE; rw [if_neg (fun k => k.1 h), if_pos ⟨h, by rw [h2]; rfl⟩]
theorem rt2 (h : u.kind = 10) (h2 : ¬ u.times = []) (h3 : 24 < (u.times.length : Int)) : rtimeE u g w = 2 := by unfold rtimeE; rw [if_neg (fun k => k.1 h), if_neg (by omega), if_pos h3]
theorem rt14 (h : u.kind = 10) (h2 : ¬ u.times = []) (h3 : (u.times.length : Int) ≤ 24) {t : Time} (ht : t ∈ u.times) (h4 : ¬ fitE g w t = 0) : rtimeE u g w = 14 := by
  have : u.times.length ≠ 0 := fun e => h2 (List.eq_nil_of_length_eq_zero e)
  unfold rtimeE; rw [if_neg (fun k => k.1 h), if_neg (by omega), if_neg (by omega), if_pos (fun k => h4 (k t ht))]
theorem rt0 (h : u.kind = 10) (h2 : ¬ u.times = []) (h3 : (u.times.length : Int) ≤ 24) (h4 : ∀ t ∈ u.times, fitE g w t = 0) : rtimeE u g w = 0 := by
  have : u.times.length ≠ 0 := fun e => h2 (List.eq_nil_of_length_eq_zero e)
  unfold rtimeE; rw [if_neg (fun k => k.1 h), if_neg (by omega), if_neg (by omega), if_neg (by simpa using h4)]
theorem rtN (h : ¬ u.kind = 10) (h2 : u.times = []) : rtimeE u g w = 0 := by
  unfold rtimeE
  rw [if_neg (by rw [h2]; simp), if_neg (fun k => h k.1), if_neg (by rw [h2]; simp), if_neg (by rw [h2]; simp)]
theorem rr1 (h : ¬ u.kind = 11) (h2 : 0 < u.rooms.length) : rroomE u = 1 := if_pos ⟨h, by omega⟩
theorem rr16 (h : u.kind = 11) (h2 : u.rooms = []) : rroomE u = 16 := by unfold rroomE; rw [if_neg (fun k => k.1 h), if_pos ⟨h, by rw [h2]; rfl⟩]
theorem rr2 (h : u.kind = 11) (h2 : ¬ u.rooms = []) (h3 : 16 < (u.rooms.length : Int)) : rroomE u = 2 := by unfold rroomE; rw [if_neg (fun k => k.1 h), if_neg (by omega), if_pos h3]
theorem rrF (h : u.kind = 11) (h2 : ¬ u.rooms = []) (h3 : (u.rooms.length : Int) ≤ 16) : rroomE u = firstE (roomNE u.rooms) u.rooms.length := by
  have : u.rooms.length ≠ 0 := fun e => h2 (List.eq_nil_of_length_eq_zero e)
  unfold rroomE; rw [if_neg (fun k => k.1 h), if_neg (by omega), if_neg (by omega)]
theorem rrN (h : ¬ u.kind = 11) (h2 : u.rooms = []) : rroomE u = 0 := by
  unfold rroomE
  rw [if_neg (by rw [h2]; simp), if_neg (fun k => h k.1), if_neg (by rw [h2]; simp), h2]; rfl
end
theorem listE_room {u : Rule} {g : Grid} {w : Int} (h : rtimeE u g w = 0) : listE u g w = rroomE u := by
  unfold listE rroomE; unfold rtimeE at h
  (repeat' split at h) <;> first | (exfalso; omega) | skip
  rename_i a b c d
  rw [if_neg a, if_neg b, if_neg c, if_neg d]
theorem rule_time {u : Rule} {g : Grid} {w : Int} (h : ruleOk u g w) {n : Int} (hn : n ≠ 0) (h2 : rtimeE u g w = n) : ruleE u g w = n := by
  have h3 : rtimeE u g w ≠ 0 := by rw [h2]; exact hn
  rw [ruleE_ok h, listE_time h3, if_pos h3, h2]
theorem rule_room {u : Rule} {g : Grid} {w : Int} (h : ruleOk u g w) (ht : rtimeE u g w = 0) {n : Int} (hn : n ≠ 0) (h2 : rroomE u = n) : ruleE u g w = n := by
  have h3 : rroomE u ≠ 0 := by rw [h2]; exact hn
  rw [ruleE_ok h, listE_room ht, if_pos h3, h2]
theorem rule_line {u : Rule} {g : Grid} {w : Int} (h : ruleOk u g w) (ht : rtimeE u g w = 0) (hr : rroomE u = 0) : ruleE u g w = if u.line < 0 then 3 else 0 := by
  rw [ruleE_ok h, listE_room ht, if_neg (by simpa using hr)]
theorem c_rruleV (u : Rule) (g : Grid) (w : Int) (hu : RuleL u) : PCall Tryz.prog 60 [ag u.row, ag g.row, vint .i64 w] (fun r => r = vint .i64 (ruleE u g w)) := by
  have h1 := c_rSound u.first hu.first
  have h2 := c_rSound u.second hu.second
  have h3 := c_none u.second
  rw [row_cells] at h1 h2 h3
  have htl := hu.times
  have hrl := hu.rooms
  refine acall_of tok mixed 170 rfl (fn := Tryz.f60) (c := Tryz.f60.body.getD .skip) (by kernel_rfl) (by kernel_rfl) (by kernel_rfl) rfl 0 rfl ?_
  repeat' (first | (refine join_in (a := .region 1 _ _) (fun b : Bool => [(7, vbool b)]) (fun _ => [some ⟨58, 13, false, .box (pvs u.row)⟩, some ⟨23, 4, false, .box (pvs g.row)⟩]) (fun b => b = pB (numP u.kind)) ⟨?_, ?_⟩) | refine o1 ?_ | refine o2 ?_ | refine k1 ?_ | refine k2 ?_ | refine And.intro ?_ ?_ | (intro h; first | exact Bool.noConfusion h | exact nz _ h | exact nl h | (simp at h; done) | (simp at h; first | (exfalso; omega) | skip) | skip) | fail)
  rotate_right
  · refine ⟨fun b hb => ?_⟩
    subst hb
    repeat' (first | (refine join_in (a := .block 0 _) (fun _ : Unit => []) (fun _ => [some ⟨58, 13, false, .box (pvs u.row)⟩, some ⟨23, 4, false, .box (pvs g.row)⟩]) (fun _ => ruleOk u g w) ⟨?_, ?_⟩) | refine o1 ?_ | refine o2 ?_ | refine k1 ?_ | refine k2 ?_ | refine k3 ?_ | refine k4 ?_ | refine k6 ?_ | refine k7 ?_ | refine And.intro ?_ ?_ | (intro h; first | exact Bool.noConfusion h | exact nz _ h | exact nl h | (simp at h; done) | (simp at h; first | (exfalso; omega) | skip) | skip) | (change retOk _ _ _ _; refine ret_pure rfl trivial ?_) | (change vcFun _ _ _ _ _; refine call_eq rfl (by repeat' (first | trivial | refine And.intro ?_ ?_ | (show 0 + _ ≤ List.length _; simp))) ALeL.refl (c_rweek g w) rfl ?_) | (change vcFun _ _ _ _ _; refine call_eq rfl (by repeat' (first | trivial | refine And.intro ?_ ?_ | (show 0 + _ ≤ List.length _; simp))) ALeL.refl (c_rcode u.name) rfl ?_) | (change vcFun _ _ _ _ _; refine call_eq rfl (by repeat' (first | trivial | refine And.intro ?_ ?_ | (show 0 + _ ≤ List.length _; simp))) ALeL.refl (h1) rfl ?_) | (change vcFun _ _ _ _ _; refine call_eq rfl (by repeat' (first | trivial | refine And.intro ?_ ?_ | (show 0 + _ ≤ List.length _; simp))) ALeL.refl (h2) rfl ?_) | (change vcFun _ _ _ _ _; refine call_eq rfl (by repeat' (first | trivial | refine And.intro ?_ ?_ | (show 0 + _ ≤ List.length _; simp))) ALeL.refl (h3) rfl ?_) | fail)
    rotate_right
    · refine ⟨fun _ hok => ?_⟩
      repeat' (first | (refine join_in (a := .seq (.region 15 _ _) _) (fun _ : Unit => []) (fun _ => [some ⟨58, 13, false, .box (pvs u.row)⟩, some ⟨23, 4, false, .box (pvs g.row)⟩]) (fun _ => rtimeE u g w = 0) ⟨?_, ?_⟩) | refine o1 ?_ | refine o2 ?_ | refine k1 ?_ | refine k2 ?_ | refine k3 ?_ | refine k4 ?_ | refine k6 ?_ | refine k7 ?_ | refine And.intro ?_ ?_ | (intro h; first | exact Bool.noConfusion h | exact nz _ h | exact nl h | (simp at h; done) | (simp at h; first | (exfalso; omega) | skip) | skip) | (change retOk _ _ _ _; refine ret_pure rfl trivial ?_) | refine eqv_len_map ?_ | fail)
      rotate_right
      · refine ⟨fun _ htE => ?_⟩
        repeat' (first | (refine join_in (a := .seq (.region 27 _ _) _) (fun _ : Unit => []) (fun _ => [some ⟨58, 13, false, .box (pvs u.row)⟩, some ⟨23, 4, false, .box (pvs g.row)⟩]) (fun _ => rroomE u = 0) ⟨?_, ?_⟩) | refine o1 ?_ | refine o2 ?_ | refine k1 ?_ | refine k2 ?_ | refine k3 ?_ | refine k4 ?_ | refine k6 ?_ | refine k7 ?_ | refine And.intro ?_ ?_ | (intro h; first | exact Bool.noConfusion h | exact nz _ h | exact nl h | (simp at h; done) | (simp at h; first | (exfalso; omega) | skip) | skip) | (change retOk _ _ _ _; refine ret_pure rfl trivial ?_) | refine eqv_len_map ?_ | fail)
        rotate_right
        · refine ⟨fun _ hrE => ?_⟩
          rw [rule_line hok htE hrE]
          repeat' (first | refine o1 ?_ | refine o2 ?_ | refine k1 ?_ | refine k2 ?_ | refine k3 ?_ | refine k6 ?_ | refine k7 ?_ | refine And.intro ?_ ?_ | (intro h; first | exact Bool.noConfusion h | exact nz _ h | exact nl h | (simp at h; done) | (simp at h; first | (exfalso; omega) | skip) | skip) | (change retOk _ _ _ _; refine ret_pure rfl trivial ?_) | fail)
          · rw [if_pos (by assumption)]; rfl
          · rw [if_neg (by omega)]; rfl
        all_goals first
          | exact congrArg (vint .i64) (rule_room hok htE (by decide) (rr1 (by assumption) (by assumption))).symm
          | exact congrArg (vint .i64) (rule_room hok htE (by decide) (rr16 (by assumption) (by assumption))).symm
          | exact congrArg (vint .i64) (rule_room hok htE (by decide) (rr2 (by assumption) (by assumption) (by assumption))).symm
          | exact ⟨(), rrN (by assumption) (by assumption), back [0, 1] rfl rfl ⟨rfl, rfl, trivial⟩ (by repeat' (first | exact trivial | exact rfl | refine And.intro ?_ ?_))⟩
          | skip
        have hF := rrF (u := u) (by assumption) (by assumption) (by assumption)
        have hr16 : u.rooms.length ≤ 16 := by omega
        refine loop_in (fun i : Nat => [(10, vint .i64 i)]) (fun _ => [some ⟨58, 13, false, .box (pvs u.row)⟩, some ⟨23, 4, false, .box (pvs g.row)⟩]) (fun i => i ≤ u.rooms.length ∧ ∀ j, j < i → roomNE u.rooms j = 0) (fun i => u.rooms.length - i) 0 ⟨Nat.zero_le _, fun j hj => by omega⟩ ⟨?_, ?_⟩
        · exact back [0, 1] rfl rfl ⟨rfl, rfl, trivial⟩ (by repeat' (first | exact trivial | exact rfl | refine And.intro ?_ ?_))
        intro i ⟨hi, hall⟩
        rcases Nat.lt_or_ge i u.rooms.length with hlt | hge
        · obtain ⟨x, hx⟩ := getE hlt
          have hcc : PCall Tryz.prog 159 [.pv (encStrs (u.rooms.take i)), .pv (es x)] (fun r => r = vbool (pB (x ∈ u.rooms.take i))) := c_has (u.rooms.take i) x (by rw [List.length_take]; omega)
          repeat' (first | (refine slice_to hi ?_) | refine o1 ?_ | refine o2 ?_ | refine k1 ?_ | refine k2 ?_ | refine k3 ?_ | refine k4 ?_ | refine k6 ?_ | refine k7 ?_ | refine And.intro ?_ ?_ | refine o3 ?_ | refine o4 ?_ | (intro h; first | exact Bool.noConfusion h | exact nz _ h | exact nl h | (simp at h; done) | (simp at h; first | (exfalso; omega) | skip) | skip) | (change retOk _ _ _ _; refine ret_pure rfl trivial ?_) | exact (by kernel_rfl : drawOk _ _ = true) | refine eqv_len_map ?_ | refine eqv_wrap (by omega) (by omega) ?_ | refine ⟨_, _, (by first | rfl | assumption), at_map (by assumption), ?_⟩ | (change vcFun _ _ _ _ _; refine call_eq rfl (by repeat' (first | trivial | refine And.intro ?_ ?_ | (show 0 + _ ≤ List.length _; simp))) ALeL.refl (c_rcode x) rfl ?_) | (change vcFunD _ _ _ _ _; refine callD_eq rfl (by repeat' (first | trivial | refine And.intro ?_ ?_ | (show 0 + _ ≤ List.length _; simp))) ALeL.refl (hcc) rfl ?_) | fail)
          all_goals first
            | (have e := roomNE_code hx (by assumption); exact congrArg (vint .i64) (rule_room hok htE (by decide) (by rw [hF, first_rooms hall hlt (by rw [e]; decide), e])).symm)
            | (have e := roomNE_dup hx (by assumption) (by assumption); exact congrArg (vint .i64) (rule_room hok htE (by decide) (by rw [hF, first_rooms hall hlt (by rw [e]; decide), e])).symm)
            | exact ⟨i + 1, ⟨by omega, all_lt_succ hall (roomNE_ok hx (by assumption) (by assumption))⟩, by omega, back [0, 1] rfl rfl ⟨rfl, rfl, trivial⟩ (by repeat' (first | exact trivial | exact rfl | refine And.intro ?_ ?_))⟩
        · repeat' (first | refine o1 ?_ | refine o2 ?_ | refine k1 ?_ | refine k2 ?_ | refine k3 ?_ | refine k8 ?_ | refine And.intro ?_ ?_ | (intro h; first | exact Bool.noConfusion h | exact nz _ h | exact nl h | (simp at h; done) | (simp at h; first | (exfalso; omega) | skip) | skip) | refine eqv_len_map ?_ | fail)
          exact ⟨(), by rw [hF]; exact firstE_zero fun j hj => hall j (by omega), back [0, 1] rfl rfl ⟨rfl, rfl, trivial⟩ (by repeat' (first | exact trivial | exact rfl | refine And.intro ?_ ?_))⟩
      all_goals first
        | exact congrArg (vint .i64) (rule_time hok (by decide) (rt1 (by assumption) (by assumption))).symm
        | exact congrArg (vint .i64) (rule_time hok (by decide) (rt16 (by assumption) (by assumption))).symm
        | exact congrArg (vint .i64) (rule_time hok (by decide) (rt2 (by assumption) (by assumption) (by assumption))).symm
        | exact ⟨(), rtN (by assumption) (by assumption), back [0, 1] rfl rfl ⟨rfl, rfl, trivial⟩ (by repeat' (first | exact trivial | exact rfl | refine And.intro ?_ ?_))⟩
        | skip
      have hk10 : u.kind = 10 := by assumption
      have ht0 : ¬ u.times = [] := by assumption
      have ht24 : (u.times.length : Int) ≤ 24 := by assumption
      refine loop_in (fun i : Nat => [(9, vint .i64 i)]) (fun _ => [some ⟨58, 13, false, .box (pvs u.row)⟩, some ⟨23, 4, false, .box (pvs g.row)⟩]) (fun i => i ≤ u.times.length ∧ ∀ j, j < i → ∀ t, u.times[j]? = some t → fitE g w t = 0) (fun i => u.times.length - i) 0 ⟨Nat.zero_le _, fun j hj => by omega⟩ ⟨?_, ?_⟩
      · exact back [0, 1] rfl rfl ⟨rfl, rfl, trivial⟩ (by repeat' (first | exact trivial | exact rfl | refine And.intro ?_ ?_))
      intro i ⟨hi, hall⟩
      rcases Nat.lt_or_ge i u.times.length with hlt | hge
      · obtain ⟨x, hx⟩ := getE hlt
        repeat' (first | refine o1 ?_ | refine o2 ?_ | refine k1 ?_ | refine k2 ?_ | refine k3 ?_ | refine k4 ?_ | refine k6 ?_ | refine k7 ?_ | refine And.intro ?_ ?_ | refine o3 ?_ | refine o4 ?_ | (intro h; first | exact Bool.noConfusion h | exact nz _ h | exact nl h | (simp at h; done) | (simp at h; first | (exfalso; omega) | skip) | skip) | (change retOk _ _ _ _; refine ret_pure rfl trivial ?_) | exact (by kernel_rfl : drawOk _ _ = true) | refine eqv_len_map ?_ | refine eqv_wrap (by omega) (by omega) ?_ | refine ⟨_, _, (by first | rfl | assumption), at_map (by assumption), ?_⟩ | (change vcFunD _ _ _ _ _; refine callD_eq rfl (by repeat' (first | trivial | refine And.intro ?_ ?_ | (show 0 + _ ≤ List.length _; simp))) ALeL.refl (c_rfits g w x) rfl ?_) | fail)
        all_goals first
          | exact congrArg (vint .i64) (rule_time hok (by decide) (rt14 hk10 ht0 ht24 (List.mem_of_getElem? hx) (by assumption))).symm
          | exact ⟨i + 1, ⟨by omega, all_lt_succ hall fun y hy => by rw [hx] at hy; cases hy; assumption⟩, by omega, back [0, 1] rfl rfl ⟨rfl, rfl, trivial⟩ (by repeat' (first | exact trivial | exact rfl | refine And.intro ?_ ?_))⟩
      · repeat' (first | refine o1 ?_ | refine o2 ?_ | refine k1 ?_ | refine k2 ?_ | refine k3 ?_ | refine k8 ?_ | refine And.intro ?_ ?_ | (intro h; first | exact Bool.noConfusion h | exact nz _ h | exact nl h | (simp at h; done) | (simp at h; first | (exfalso; omega) | skip) | skip) | refine eqv_len_map ?_ | fail)
        exact ⟨(), rt0 hk10 ht0 ht24 fun t ht => by
          obtain ⟨j, hj⟩ := List.getElem?_of_mem ht
          exact hall j (by have := (List.getElem?_eq_some_iff.1 hj).1; omega) t hj, back [0, 1] rfl rfl ⟨rfl, rfl, trivial⟩ (by repeat' (first | exact trivial | exact rfl | refine And.intro ?_ ?_))⟩
    all_goals first
      | exact congrArg (vint .i64) (ru1 (by assumption)).symm
      | exact congrArg (vint .i64) (ru2 (by assumption) (by assumption)).symm
      | exact congrArg (vint .i64) (ru3 (by assumption) (by assumption) (by omega)).symm
      | exact congrArg (vint .i64) (ru4 (by assumption) (by assumption) (by assumption) (by assumption) (by omega)).symm
      | exact congrArg (vint .i64) (ru6 (by assumption) (by assumption) (by assumption) (by assumption) (by assumption) (by assumption) (sels6 (by assumption) (by assumption) (by assumption)) (by first | omega | exact .inr (.inr ⟨by assumption, by assumption⟩))).symm
      | exact congrArg (vint .i64) (ru6 (by assumption) (by assumption) (by assumption) (by assumption) (by assumption) (by assumption) (selsN (by assumption) (by assumption) (by assumption)) (by first | omega | exact .inr (.inr ⟨by assumption, by assumption⟩))).symm
      | exact congrArg (vint .i64) (ru5 (by assumption) (by assumption) (by assumption) (by assumption) (by assumption) (by assumption) (fun h => by obtain ⟨a1, a2, a3⟩ := h; unfold noneP at a3; simp_all)).symm
      | exact ⟨(), ⟨by assumption, by assumption, by assumption, by assumption, by assumption, by assumption, sels6 (by assumption) (by assumption) (by assumption), by assumption, by assumption, by first | exact .inl (by assumption) | exact .inr (by assumption)⟩, back [0, 1] rfl rfl ⟨rfl, rfl, trivial⟩ (by repeat' (first | exact trivial | exact rfl | refine And.intro ?_ ?_))⟩
      | exact ⟨(), ⟨by assumption, by assumption, by assumption, by assumption, by assumption, by assumption, selsN (by assumption) (by assumption) (by assumption), by assumption, by assumption, by first | exact .inl (by assumption) | exact .inr (by assumption)⟩, back [0, 1] rfl rfl ⟨rfl, rfl, trivial⟩ (by repeat' (first | exact trivial | exact rfl | refine And.intro ?_ ?_))⟩
  all_goals
    refine ⟨_, ?_, back [0, 1] rfl rfl ⟨rfl, rfl, trivial⟩ (by repeat' (first | exact trivial | exact rfl | refine And.intro ?_ ?_))⟩
    refine pB_eq ?_
    unfold numP
    simp [*]
end Go.Proofs.YtmaambipopgdkaaGreat.Cw

/-
  Contracts: the times at which a class can take place.
-/
namespace Go.Proofs.YtmaambipopgdkaaGreat.Cw
open Go.Cw Go.Proofs
set_option linter.unusedVariables false
set_option maxRecDepth 100000
set_option maxHeartbeats 4000000

def timesF (c : Class) (b : List Start) (i : Nat) : List Time := match c.pats[i]? with
  | some p => b.map fun s => (⟨p, s.day, s.slot, c.len⟩ : Time)
  | none => []
def timesB (c : Class) (b : List Start) : List Time := gr (timesF c b) c.pats.length
def beginsV (c : Class) (g : Grid) : List Start := if c.starts.length = 0 then allS c.len g else c.starts
def timesV (c : Class) (g : Grid) : List Time := timesB c (beginsV c g)
/-- The bounds that the checks give. -/
structure TimeOk (c : Class) (g : Grid) : Prop where
  grid : gridP g
  len : 1 ≤ c.len ∧ c.len ≤ g.slots
  pats : c.pats.length ≤ 20
  starts : c.starts.length ≤ 168
end Go.Proofs.YtmaambipopgdkaaGreat.Cw

/-
  Contracts: the times at which a class can take place (reference).
-/
namespace Go.Proofs.YtmaambipopgdkaaGreat.Cw
open Go.Cw Go.Proofs
set_option linter.unusedVariables false
set_option maxRecDepth 100000
set_option maxHeartbeats 4000000

end Go.Proofs.YtmaambipopgdkaaGreat.Cw

/-
  Contracts: rooms that fit, times that are free.
-/
namespace Go.Proofs.YtmaambipopgdkaaGreat.Cw
open Go.Cw Go.Proofs
set_option linter.unusedVariables false
set_option maxRecDepth 100000
set_option maxHeartbeats 4000000

def roomFits (r : Room) (c : Class) : Prop := c.seats ≤ r.seats ∧ ∀ f ∈ c.feats, f ∈ r.feats
end Go.Proofs.YtmaambipopgdkaaGreat.Cw

/-
  Models: their data, and what a valid one is.
-/
namespace Go.Proofs.YtmaambipopgdkaaGreat.Cw
open Go.Cw Go.Proofs
set_option linter.unusedVariables false
set_option maxRecDepth 100000

structure Placed where
  (time : Time)
  (room : Int)
def Placed.row (p : Placed) : List PV := [ei p.time.weeks, ei p.time.day, ei p.time.start, ei p.time.len, ei p.room]
structure Charge where
  (rule cost : Int)
def Charge.row (c : Charge) : List PV := [ei c.rule, ei c.cost]
structure Opt where
  (place : Placed)
  (charges : List Charge)
def Opt.row (o : Opt) : List PV := [ei o.place.time.weeks, ei o.place.time.day, ei o.place.time.start, ei o.place.time.len, ei o.place.room, .sl 2 (o.charges.map Charge.row)]
structure Pair where
  (first second rule : Int)
  (table : List Int)
def Pair.row (p : Pair) : List PV := [ei p.first, ei p.second, ei p.rule, encInts p.table]
structure Load where
  (cls opt weight : Int)
def Load.row (l : Load) : List PV := [ei l.cls, ei l.opt, ei l.weight]
structure Count where
  (rule : Int)
  (loads : List Load)
  (most penalty : Int)
def Count.row (c : Count) : List PV := [ei c.rule, .sl 3 (c.loads.map Load.row), ei c.most, ei c.penalty]
structure Model where
  (classes : List (List Opt))
  (pairs : List Pair)
  (counts : List Count)
  (rules : Int)
def optsRow (l : List Opt) : List PV := [.sl 6 (l.map Opt.row)]
def Model.cells (m : Model) : List PV := [.sl 1 (m.classes.map optsRow), .sl 4 (m.pairs.map Pair.row), .sl 4 (m.counts.map Count.row), ei m.rules]

def BIG : Nat := 9223372036854775807
/-- Lists are no longer than lists can be. -/
structure Laid (m : Model) : Prop where
  cn : m.classes.length ≤ 9223372036854775807
  pn : m.pairs.length ≤ 9223372036854775807
  ch : ∀ l ∈ m.classes, ∀ o ∈ l, o.charges.length ≤ 9223372036854775807
  ld : ∀ c ∈ m.counts, c.loads.length ≤ 9223372036854775807

def priceP (n : Int) : Prop := (1 ≤ n ∧ n ≤ 1048576) ∨ n = 1099511627776
def ruleP (m : Model) (n : Int) : Prop := 0 ≤ n ∧ n < m.rules
def optionP (m : Model) (c o : Int) : Prop := 0 ≤ c ∧ 0 ≤ o ∧ ∃ l, m.classes[c.toNat]? = some l ∧ o < l.length
def sizedP (m : Model) : Prop := m.classes.length ≤ 24 ∧ (∀ l ∈ m.classes, l.length ≤ 24) ∧ m.pairs.length ≤ 4000 ∧ m.counts.length ≤ 800 ∧ 0 ≤ m.rules ∧ m.rules ≤ 56
def chargeAt (m : Model) (l : List Charge) (i : Nat) : Prop := ∀ c, l[i]? = some c → ruleP m c.rule ∧ priceP c.cost ∧ ∀ k b, i = k + 1 → l[k]? = some b → b.rule < c.rule
def chargesP (m : Model) (o : Opt) : Prop := ∀ i, i < o.charges.length → chargeAt m o.charges i
def pairP (m : Model) (p : Pair) : Prop := ruleP m p.rule ∧ 0 ≤ p.first ∧ p.first < p.second ∧ (∃ a b, m.classes[p.first.toNat]? = some a ∧ m.classes[p.second.toNat]? = some b ∧ p.table.length = a.length * b.length) ∧ ∀ n ∈ p.table, n = 0 ∨ priceP n
def pairLt (p q : Pair) : Prop := p.rule < q.rule ∨ (p.rule = q.rule ∧ (p.first < q.first ∨ (p.first = q.first ∧ p.second < q.second)))
def pairAt (m : Model) (i : Nat) : Prop := ∀ p, m.pairs[i]? = some p → pairP m p ∧ ∀ k q, i = k + 1 → m.pairs[k]? = some q → pairLt q p
def loadAt (m : Model) (l : List Load) (i : Nat) : Prop := ∀ x, l[i]? = some x → optionP m x.cls x.opt ∧ 1 ≤ x.weight ∧ x.weight ≤ 1000 ∧ ∀ k y, i = k + 1 → l[k]? = some y → y.cls < x.cls ∨ (y.cls = x.cls ∧ y.opt < x.opt)
def countP_ (m : Model) (c : Count) : Prop := ruleP m c.rule ∧ 0 ≤ c.most ∧ c.most ≤ 1048576 ∧ priceP c.penalty ∧ ∀ i, i < c.loads.length → loadAt m c.loads i
def goodP (m : Model) : Prop := (∀ l ∈ m.classes, ∀ o ∈ l, chargesP m o) ∧ (∀ i, i < m.pairs.length → pairAt m i) ∧ ∀ c ∈ m.counts, countP_ m c
noncomputable def modelE (m : Model) : Int := if pB (sizedP m) then (if pB (goodP m) then 0 else 1) else 2
end Go.Proofs.YtmaambipopgdkaaGreat.Cw

/-
  Contracts: the options of a class.
-/
namespace Go.Proofs.YtmaambipopgdkaaGreat.Cw
open Go.Cw Go.Proofs
set_option linter.unusedVariables false
set_option maxRecDepth 100000
set_option maxHeartbeats 8000000

/-- The elements at places, of those that there are. -/
def upto {α β : Type} (l : List α) (f : Nat → α → Option β) (n : Nat) : List β := (List.range n).filterMap fun i => (l[i]?).bind (f i)
theorem upto_some {α β : Type} {l : List α} {f : Nat → α → Option β} {n : Nat} {x : α} {y : β} (h : l[n]? = some x) (hf : f n x = some y) : upto l f (n + 1) = upto l f n ++ [y] := by
  unfold upto
  rw [List.range_succ, List.filterMap_append]
  simp [h, hf]
theorem upto_none {α β : Type} {l : List α} {f : Nat → α → Option β} {n : Nat} {x : α} (h : l[n]? = some x) (hf : f n x = none) : upto l f (n + 1) = upto l f n := by
  unfold upto
  rw [List.range_succ, List.filterMap_append]
  simp [h, hf]
theorem upto_len {α β : Type} {l : List α} {f : Nat → α → Option β} {n : Nat} : (upto l f n).length ≤ n := by
  unfold upto
  exact Nat.le_trans (List.length_filterMap_le ..) (by simp)
noncomputable def lectAt (r : Reg) (s : Str) : Option Lecturer := if idxL r.staff s < 0 then none else r.staff[(idxL r.staff s).toNat]?
noncomputable def staffF (r : Reg) : Nat → Str → Option Lecturer := fun _ s => lectAt r s
noncomputable def staffV (r : Reg) (c : Class) (k : Nat) : List Lecturer := upto c.staff (staffF r) k
noncomputable def roomF (c : Class) : Nat → Room → Option Int := fun i x => if pB (roomFits x c) then some (i : Int) else none
noncomputable def roomsV (r : Reg) (c : Class) (k : Nat) : List Int := upto r.rooms (roomF c) k
noncomputable def busyB (l : List Lecturer) (t : Time) : Bool := l.any fun x => !pB (apartB x.away t)
noncomputable def openF (r : Reg) (t : Time) : Nat → Int → Option Placed := fun _ i => (r.rooms[i.toNat]?).bind fun x => if pB (apartB x.closed t) then some ⟨t, i⟩ else none
noncomputable def optsT (r : Reg) (c : Class) (t : Time) : List Placed :=
  if busyB (staffV r c c.staff.length) t then [] else if c.seats = 0 then [⟨t, -1⟩] else upto (roomsV r c r.rooms.length) (openF r t) (roomsV r c r.rooms.length).length
noncomputable def optsF (r : Reg) (c : Class) (i : Nat) : List Placed := match (timesV c r.grid)[i]? with
  | some t => optsT r c t
  | none => []
noncomputable def optsAll (r : Reg) (c : Class) : List Placed := gr (optsF r c) (timesV c r.grid).length
noncomputable def optsV (r : Reg) (c : Class) : List Placed := if (optsAll r c).length > 24 then [] else optsAll r c
noncomputable def optsE (r : Reg) (c : Class) : Int := if (optsAll r c).length > 24 then 2 else 0
/-- The bounds that the checks give. -/
structure OptOk (r : Reg) (c : Class) : Prop where
  lens : RegL r
  time : TimeOk c r.grid
  rooms : r.rooms.length ≤ 16
  room : ∀ x ∈ r.rooms, x.feats.length ≤ 100000 ∧ x.closed.length ≤ 100000
  away : ∀ x ∈ r.staff, x.away.length ≤ 100000
  staff : c.staff.length ≤ 8
  feats : c.feats.length ≤ 100000
  known : ∀ s ∈ c.staff, lcode r.staff s = true
end Go.Proofs.YtmaambipopgdkaaGreat.Cw

/-
  Contracts: the options of a class (reference).
-/
namespace Go.Proofs.YtmaambipopgdkaaGreat.Cw
open Go.Cw Go.Proofs
set_option linter.unusedVariables false
set_option maxRecDepth 100000
set_option maxHeartbeats 8000000

noncomputable def bothF (r : Reg) (c : Class) (t : Time) : Nat → Room → Option Placed := fun i x => if pB (roomFits x c) && pB (apartB x.closed t) then some ⟨t, i⟩ else none
noncomputable def freeT (r : Reg) (c : Class) (t : Time) (k : Nat) : Bool := !busyB (staffV r c k) t
end Go.Proofs.YtmaambipopgdkaaGreat.Cw

/-
  What a right registry gives; Options on both sides.
-/
namespace Go.Proofs.YtmaambipopgdkaaGreat.Cw
open Go.Cw Go.Proofs
set_option linter.unusedVariables false
set_option maxRecDepth 100000
set_option maxHeartbeats 4000000

theorem orI_z : ∀ {l : List Int}, orI l = 0 → ∀ x ∈ l, x = 0
  | [], _, x, h => by cases h
  | y :: l, h, x, hx => by
    simp only [orI] at h
    split at h
    · rename_i hy
      rcases List.mem_cons.1 hx with e | e
      · rw [e]; exact hy
      · exact orI_z h x e
    · rename_i hy; exact absurd h hy
theorem regE_z {r : Reg} (h : regE r = 0) : orI (partsE r) = 0 ∧ unknownB r = false := by
  unfold regE at h
  split at h
  · rename_i h1; exact absurd h h1
  · rename_i h1
    split at h
    · omega
    · rename_i h2; exact ⟨by simpa using h1, by simpa using h2⟩
theorem room_z {l : List Room} {g : Grid} {w : Int} (h : roomsE l g w = 0) : ∀ x ∈ l, x.feats.length ≤ 8 ∧ x.closed.length ≤ 24 := by
  unfold roomsE at h
  split at h
  · split at h
    · omega
    · refine all_mem h fun i x hx h0 => ?_
      unfold roomE at h0
      rw [hx] at h0
      dsimp only at h0
      split at h0
      · omega
      · split at h0
        · omega
        · split at h0
          · omega
          · omega
  · omega
noncomputable def optionsV (r : Reg) (k : Int) : List Placed × Int := if regE r ≠ 0 then ([], 1) else if k < 0 ∨ (r.classes.length : Int) ≤ k then ([], 3) else match r.classes[k.toNat]? with
  | some c => (optsV r c, optsE r c)
  | none => ([], 3)
end Go.Proofs.YtmaambipopgdkaaGreat.Cw

/-
  Selections: which classes they mean; which names are known.
-/
namespace Go.Proofs.YtmaambipopgdkaaGreat.Cw
open Go.Cw Go.Proofs
set_option linter.unusedVariables false
set_option maxRecDepth 100000
set_option maxHeartbeats 4000000

theorem idxB_in {α : Type} {p : α → Bool} {l : List α} (h : 0 ≤ idxB p l) : ∃ (k : Nat) (x : α), idxB p l = k ∧ l[k]? = some x ∧ p x = true := by
  unfold idxB at h ⊢
  split at h
  · rename_i i hi
    obtain ⟨h1, h2, -⟩ := List.findIdx?_eq_some_iff_getElem.1 hi
    exact ⟨i, l[i], rfl, List.getElem?_eq_getElem h1, h2⟩
  · omega
noncomputable def curC (r : Reg) (s : Str) : List Str := if idxU r.curris s < 0 then [] else match r.curris[(idxU r.curris s).toNat]? with
  | some x => x.courses
  | none => []
theorem curC_no {r : Reg} {s : Str} (h : idxU r.curris s < 0) : curC r s = [] := if_pos h
theorem curC_at {r : Reg} {s : Str} {k : Nat} {x : Curri} (h : idxU r.curris s = k) (hx : r.curris[k]? = some x) : curC r s = x.courses := by
  unfold curC; rw [h, if_neg (by omega), Int.toNat_natCast, hx]
theorem indexR1 {r : Reg} {c : Str} : indexR r 1 c = idxR r.rooms c := rfl
theorem indexR4 {r : Reg} {c : Str} : indexR r 4 c = idxC r.classes c := rfl
theorem indexR5 {r : Reg} {c : Str} : indexR r 5 c = idxU r.curris c := rfl
theorem c_rindexR (r : Reg) (k : Int) (c : Str) (hr : RegL r) : PCall Tryz.prog 61 [ag r.cells, vint .i64 k, .pv (es c)] (fun a => a = vint .i64 (indexR r k c)) := by
  have h1 := hr.rooms
  refine acall_of tok mixed 45 rfl (fn := Tryz.f61) (c := Tryz.f61.body.getD .skip) (by kernel_rfl) (by kernel_rfl) (by kernel_rfl) rfl 0 rfl ?_
  repeat' (first | refine o1 ?_ | refine o2 ?_ | refine k1 ?_ | refine k2 ?_ | refine k3 ?_ | refine k4 ?_ | refine k6 ?_ | refine k7 ?_ | refine And.intro ?_ ?_ | (intro h; first | exact Bool.noConfusion h | exact nz _ h | exact nl h | (simp at h; done) | (simp at h; first | (exfalso; omega) | skip) | skip) | (change retOk _ _ _ _; refine ret_pure rfl trivial ?_) | (change vcFun _ _ _ _ _; refine call_eq rfl (by repeat' (first | trivial | refine And.intro ?_ ?_ | (show 0 + _ ≤ List.length _; simp))) ALeL.refl (c_rlidx r.staff c hr.staff) rfl ?_) | (change vcFun _ _ _ _ _; refine call_eq rfl (by repeat' (first | trivial | refine And.intro ?_ ?_ | (show 0 + _ ≤ List.length _; simp))) ALeL.refl (c_rcidx r.classes c hr.classes) rfl ?_) | (change vcFun _ _ _ _ _; refine call_eq rfl (by repeat' (first | trivial | refine And.intro ?_ ?_ | (show 0 + _ ≤ List.length _; simp))) ALeL.refl (c_ruidx r.curris c hr.curris) rfl ?_) | fail)
  · refine loop_in (fun i : Nat => [(7, vint .i64 i)]) (fun _ => [some ⟨37, 14, false, .box (pvs r.cells)⟩]) (fun i => i ≤ r.rooms.length ∧ ∀ j, j < i → ∀ y, r.rooms[j]? = some y → pB (y.code = c) = false) (fun i => r.rooms.length - i) 0 ⟨Nat.zero_le _, fun j hj => by omega⟩ ⟨?_, ?_⟩
    · exact back [0] rfl rfl ⟨rfl, trivial⟩ (by repeat' (first | exact trivial | exact rfl | refine And.intro ?_ ?_))
    intro i ⟨hi, hall⟩
    have hk : indexR r k c = idxR r.rooms c := by rw [(by assumption : k = 1)]; rfl
    rcases Nat.lt_or_ge i r.rooms.length with hlt | hge
    · obtain ⟨x, hx⟩ := getE hlt
      repeat' (first | refine o1 ?_ | refine o2 ?_ | refine k1 ?_ | refine k2 ?_ | refine k3 ?_ | refine k4 ?_ | refine k6 ?_ | refine k7 ?_ | refine And.intro ?_ ?_ | (intro h; first | exact Bool.noConfusion h | exact nz _ h | exact nl h | (simp at h; done) | (simp at h; first | (exfalso; omega) | skip) | skip) | (change retOk _ _ _ _; refine ret_pure rfl trivial ?_) | refine eqv_len_map ?_ | refine eqv_wrap (by omega) (by omega) ?_ | refine ⟨_, _, (by first | rfl | assumption), at_map (by assumption), ?_⟩ | fail)
      · exact congrArg (vint .i64) (by rw [hk]; exact (idxB_at hall hx (pB_t (sEq_iff.1 (by assumption)))).symm)
      · exact ⟨i + 1, ⟨by omega, all_lt_succ hall fun y hy => by rw [hx] at hy; cases hy; exact pB_f (sEq_f.1 (by assumption))⟩, by omega, back [0] rfl rfl ⟨rfl, trivial⟩ (by repeat' (first | exact trivial | exact rfl | refine And.intro ?_ ?_))⟩
    · repeat' (first | refine o1 ?_ | refine o2 ?_ | refine k1 ?_ | refine k2 ?_ | refine k3 ?_ | refine k7 ?_ | refine k8 ?_ | refine And.intro ?_ ?_ | (intro h; first | exact Bool.noConfusion h | exact nz _ h | exact nl h | (simp at h; done) | (simp at h; first | (exfalso; omega) | skip) | skip) | (change retOk _ _ _ _; refine ret_pure rfl trivial ?_) | refine eqv_len_map ?_ | fail)
      exact congrArg (vint .i64) (by rw [hk]; exact (idxB_none fun j hj => hall j (by omega)).symm)
  all_goals
    refine congrArg (vint .i64) ?_
    unfold indexR idxL idxC idxU
    simp [*]
theorem c_curriculum0 (r : Reg) (s : Str) (hr : RegL r) : PCall Tryz.prog 283 [ag r.cells, .pv (es s)] (fun a => Leq a (.pv (encStrs (curC r s)))) := by
  have hi := c_indexR r 5 s hr
  rw [indexR5] at hi
  by_cases h0 : idxU r.curris s < 0
  · rw [curC_no h0]
    generalize idxU r.curris s = X at *
    refine acall_of tok mixed 17 rfl (fn := Tryz.f283) (c := Tryz.f283.body.getD .skip) (by kernel_rfl) (by kernel_rfl) (by kernel_rfl) rfl 0 rfl ?_
    repeat' (first | refine o1 ?_ | refine o2 ?_ | refine k1 ?_ | refine k2 ?_ | refine k3 ?_ | refine k7 ?_ | refine And.intro ?_ ?_ | (intro h; first | exact Bool.noConfusion h | exact nz _ h | exact nl h | (simp at h; done) | (simp at h; first | (exfalso; omega) | skip) | skip) | (change retOk _ _ _ _; refine ret_pure rfl trivial ?_) | (change vcFun _ _ _ _ _; refine call_eq rfl (by repeat' (first | trivial | refine And.intro ?_ ?_ | (show 0 + _ ≤ List.length _; simp))) ALeL.refl (hi) rfl ?_) | fail)
    exact ⟨ALe.pv PLe.nil⟩
  · obtain ⟨k, x, e, hx, -⟩ := idxB_in (p := fun y : Curri => pB (y.code = s)) (l := r.curris) (by unfold idxU at h0; omega)
    have e : idxU r.curris s = k := e
    rw [curC_at e hx]
    rw [e] at hi
    refine acall_of tok mixed 17 rfl (fn := Tryz.f283) (c := Tryz.f283.body.getD .skip) (by kernel_rfl) (by kernel_rfl) (by kernel_rfl) rfl 0 rfl ?_
    repeat' (first | refine o1 ?_ | refine o2 ?_ | refine k1 ?_ | refine k2 ?_ | refine k3 ?_ | refine k6 ?_ | refine k7 ?_ | refine And.intro ?_ ?_ | (intro h; first | exact Bool.noConfusion h | exact nz _ h | exact nl h | (simp at h; done) | (simp at h; first | (exfalso; omega) | skip) | skip) | (change retOk _ _ _ _; refine ret_pure rfl trivial ?_) | refine ⟨_, _, (by first | rfl | assumption), at_map (by assumption), ?_⟩ | (change vcFun _ _ _ _ _; refine call_eq rfl (by repeat' (first | trivial | refine And.intro ?_ ?_ | (show 0 + _ ≤ List.length _; simp))) ALeL.refl (hi) rfl ?_) | fail)
    exact ⟨ALe.refl⟩
theorem c_curriculum (r : Reg) (s : Str) (hr : RegL r) : PCall Tryz.prog 283 [ag r.cells, .pv (es s)] (fun a => a = .pv (encStrs (curC r s))) :=
  (c_curriculum0 r s hr).weak fun r h => ⟨_, h.le, rfl⟩
noncomputable def leafB (r : Reg) (k : Int) (n : Str) (c : Class) : Bool :=
  if k = 1 then true else if k = 2 then sEq c.code n else if k = 3 then sEq c.course n else if k = 4 then sEq c.part n else if k = 5 then pB (c.course ∈ curC r n) else if k = 6 then pB (n ∈ c.staff) else pB (n ∈ c.feats)
theorem curC_len {r : Reg} {s : Str} (h : RegS r) : (curC r s).length ≤ 100000 := by
  unfold curC
  split
  · simp
  · split
    · exact h.cur _ (List.mem_of_getElem? ‹_›)
    · simp
theorem c_meant (r : Reg) (k : Int) (n : Str) (l : List Sel) (c : Class) (hr : RegS r) (hc : c ∈ r.classes) : PCall Tryz.prog 250 [ag r.cells, ag (Sel.row (.mk k n l)), ag c.row] (fun a => a = vbool (leafB r k n c)) := by
  have h1 := c_curriculum r n hr.lens
  have h2 := c_contains (curC r n) c.course (curC_len hr)
  have h3 := c_contains c.staff n (hr.cls c hc).1
  have h4 := c_contains c.feats n (hr.cls c hc).2
  rw [row_mk]
  unfold leafB
  generalize curC r n = CC at *
  refine acall_of tok mixed 53 rfl (fn := Tryz.f250) (c := Tryz.f250.body.getD .skip) (by kernel_rfl) (by kernel_rfl) (by kernel_rfl) rfl 0 rfl ?_
  repeat' (first | refine o1 ?_ | refine o2 ?_ | refine k1 ?_ | refine k2 ?_ | refine k3 ?_ | refine k4 ?_ | refine k6 ?_ | refine k7 ?_ | refine And.intro ?_ ?_ | refine o3 ?_ | refine o4 ?_ | (intro h; first | exact Bool.noConfusion h | exact nz _ h | exact nl h | (simp at h; done) | (simp at h; first | (exfalso; omega) | skip) | skip) | (change retOk _ _ _ _; refine ret_pure rfl trivial ?_) | exact (by kernel_rfl : drawOk _ _ = true) | (change vcFunD _ _ _ _ _; refine callD_eq rfl (by repeat' (first | trivial | refine And.intro ?_ ?_ | (show 0 + _ ≤ List.length _; simp))) ALeL.refl (h1) rfl ?_) | (change vcFunD _ _ _ _ _; refine callD_eq rfl (by repeat' (first | trivial | refine And.intro ?_ ?_ | (show 0 + _ ≤ List.length _; simp))) ALeL.refl (h2) rfl ?_) | (change vcFun _ _ _ _ _; refine call_eq rfl (by repeat' (first | trivial | refine And.intro ?_ ?_ | (show 0 + _ ≤ List.length _; simp))) ALeL.refl (h3) rfl ?_) | (change vcFun _ _ _ _ _; refine call_eq rfl (by repeat' (first | trivial | refine And.intro ?_ ?_ | (show 0 + _ ≤ List.length _; simp))) ALeL.refl (h4) rfl ?_) | fail)
  all_goals
    refine congrArg vbool ?_
    simp [*]
-- Which classes a selection means.
mutual
noncomputable def hasS (r : Reg) (c : Class) : Sel → Bool
  | .mk k n l => if k = 8 then decide (cntS r c l = l.length) else if k = 9 then decide (0 < cntS r c l) else if k = 10 then decide (cntS r c l = 0) else leafB r k n c
noncomputable def cntS (r : Reg) (c : Class) : List Sel → Nat
  | [] => 0
  | q :: l => cntS r c l + (if hasS r c q then 1 else 0)
end
theorem cntS_eq {r : Reg} {c : Class} : ∀ l : List Sel, cntS r c l = l.countP (hasS r c)
  | [] => by rw [cntS]; rfl
  | q :: l => by rw [cntS, cntS_eq l, List.countP_cons]
theorem has_and {r : Reg} {c : Class} {n : Str} {l : List Sel} : hasS r c (.mk 8 n l) = l.all (hasS r c) := by
  rw [hasS, if_pos rfl, cntS_eq]
  rw [Bool.eq_iff_iff, decide_eq_true_iff, List.countP_eq_length, List.all_eq_true]
theorem has_or {r : Reg} {c : Class} {n : Str} {l : List Sel} : hasS r c (.mk 9 n l) = l.any (hasS r c) := by
  rw [hasS, if_neg (by decide), if_pos rfl, cntS_eq]
  rw [Bool.eq_iff_iff, decide_eq_true_iff, List.countP_pos_iff, List.any_eq_true]
theorem has_not {r : Reg} {c : Class} {n : Str} {q : Sel} : hasS r c (.mk 10 n [q]) = !hasS r c q := by
  rw [hasS, if_neg (by decide), if_neg (by decide), if_pos rfl, cntS_eq]
  cases h : hasS r c q <;> simp [List.countP_cons, h]
theorem has_leaf {r : Reg} {c : Class} {k : Int} {n : Str} {l : List Sel} (h : k < 8 ∨ 10 < k) : hasS r c (.mk k n l) = leafB r k n c := by
  rw [hasS, if_neg (by omega), if_neg (by omega), if_neg (by omega)]
theorem c_index_sel (l : List Sel) (f : FuncId) (caps : List PV) (p : Sel → Bool) (hl : l.length ≤ 9223372036854775807) (hf : ∀ x ∈ l, PCall Tryz.prog f (ag (Sel.row x) :: pvs caps) (fun r => r = vbool (p x))) :
    PCall Tryz.prog 265 [.pv (.sl 3 (l.map Sel.row)), .pv (.fn f caps)] (fun r => r = vint .i64 (idxB p l)) := by
  refine acall_of tok mixed 19 rfl (fn := Tryz.f265) (c := Tryz.f265.body.getD .skip) (by kernel_rfl) (by kernel_rfl) (by kernel_rfl) rfl 0 rfl ?_
  repeat' (first | refine o1 ?_ | refine o2 ?_ | refine k1 ?_ | refine k2 ?_ | refine k4 ?_ | refine eqv_len_map ?_ | fail)
  refine loop_at (fun i : Nat => [(8, vint .i64 i)]) (fun _ => []) (fun i => i ≤ l.length ∧ ∀ j, j < i → ∀ y, l[j]? = some y → p y = false) (fun i => l.length - i) 0 ⟨by omega, fun j hj => by omega⟩ (by repeat' (first | exact trivial | exact ⟨_, rfl, ALe.refl⟩ | refine And.intro ?_ ?_)) (by repeat' (first | exact trivial)) ?_
  intro i ⟨hi, hall⟩
  rcases Nat.lt_or_ge i l.length with hlt | hge
  · obtain ⟨⟨kq, nq, lq⟩, hx⟩ := getE hlt
    have hm := List.mem_of_getElem? hx
    repeat' (first | refine o1 ?_ | refine o2 ?_ | refine k1 ?_ | refine k2 ?_ | refine k3 ?_ | refine k4 ?_ | refine k6 ?_ | refine k7 ?_ | refine And.intro ?_ ?_ | (intro h; first | exact Bool.noConfusion h | exact nz _ h | exact nl h | (simp at h; done) | (simp at h; first | (exfalso; omega) | skip) | skip) | (change retOk _ _ _ _; refine ret_pure rfl trivial ?_) | refine eqv_wrap (by omega) (by omega) ?_ | refine ⟨_, _, (by first | rfl | assumption), at_map (by assumption), ?_⟩ | (change vcFun _ _ (_ ++ pvs _) _ _; refine call_cap rfl (by repeat' (first | trivial | refine And.intro ?_ ?_ | (show 0 + _ ≤ List.length _; simp))) (hf _ hm) rfl ?_) | fail)
    all_goals first
      | exact ⟨i + 1, ⟨by omega, all_lt_succ hall fun y hy => by rw [hx] at hy; cases hy; assumption⟩, by omega, back [] rfl rfl trivial (by repeat' (first | exact trivial | exact rfl | refine And.intro ?_ ?_))⟩
      | exact congrArg (vint .i64) (idxB_at hall hx (by assumption)).symm
  · repeat' (first | refine o1 ?_ | refine o2 ?_ | refine k1 ?_ | refine k2 ?_ | refine k3 ?_ | refine k7 ?_ | refine k8 ?_ | refine And.intro ?_ ?_ | (intro h; first | exact Bool.noConfusion h | exact nz _ h | exact nl h | (simp at h; done) | (simp at h; first | (exfalso; omega) | skip) | skip) | (change retOk _ _ _ _; refine ret_pure rfl trivial ?_) | fail)
    exact congrArg (vint .i64) (idxB_none fun j hj => hall j (by omega)).symm

theorem c_any_sel (l : List Sel) (f : FuncId) (caps : List PV) (p : Sel → Bool) (hl : l.length ≤ 9223372036854775807) (hf : ∀ x ∈ l, PCall Tryz.prog f (ag (Sel.row x) :: pvs caps) (fun r => r = vbool (p x))) :
    PCall Tryz.prog 185 [.pv (.sl 3 (l.map Sel.row)), .pv (.fn f caps)] (fun r => r = vbool (l.any p)) := by
  refine acall_of tok mixed 9 rfl (fn := Tryz.f185) (c := Tryz.f185.body.getD .skip) (by kernel_rfl) (by kernel_rfl) (by kernel_rfl) rfl 0 rfl ?_
  repeat' (first | refine o1 ?_ | refine o2 ?_ | refine k1 ?_ | refine k2 ?_ | refine k7 ?_ | (change retOk _ _ _ _; refine ret_pure rfl trivial ?_) | (change vcFun _ _ _ _ _; refine call_eq rfl (by repeat' (first | trivial | refine And.intro ?_ ?_ | (show 0 + _ ≤ List.length _; simp))) ALeL.refl (c_index_sel l f caps p hl hf) rfl ?_) | fail)
  exact congrArg vbool idxB_any
def HasOk (r : Reg) (c : Class) (s : Sel) : Prop := PCall Tryz.prog 179 [ag r.cells, ag s.row, ag c.row] (fun a => a = vbool (hasS r c s))
theorem c_has1 (r : Reg) (c : Class) (q : Sel) (h : HasOk r c q) : PCall Tryz.prog 252 [ag q.row, .pv (.ia r.cells), .pv (.ia c.row)] (fun a => a = vbool (hasS r c q)) := by
  unfold HasOk at h
  generalize hasS r c q = B at *
  obtain ⟨k, n, l⟩ := q
  rw [row_mk] at *
  refine acall_of tok mixed 9 rfl (fn := Tryz.f252) (c := Tryz.f252.body.getD .skip) (by kernel_rfl) (by kernel_rfl) (by kernel_rfl) rfl 0 rfl ?_
  repeat' (first | refine o1 ?_ | refine o2 ?_ | refine k1 ?_ | refine k2 ?_ | refine k7 ?_ | (change retOk _ _ _ _; refine ret_pure rfl trivial ?_) | (change vcFun _ _ _ _ _; refine call_eq rfl (by repeat' (first | trivial | refine And.intro ?_ ?_ | (show 0 + _ ≤ List.length _; simp))) ALeL.refl (h) rfl ?_) | fail)
  rfl
theorem c_has2 (r : Reg) (c : Class) (q : Sel) (h : HasOk r c q) : PCall Tryz.prog 253 [ag q.row, .pv (.ia [.fn 252 [.ia r.cells, .ia c.row]])] (fun a => a = vbool (!hasS r c q)) := by
  have h := c_has1 r c q h
  generalize hasS r c q = B at *
  obtain ⟨k, n, l⟩ := q
  rw [row_mk] at *
  refine acall_of tok mixed 8 rfl (fn := Tryz.f253) (c := Tryz.f253.body.getD .skip) (by kernel_rfl) (by kernel_rfl) (by kernel_rfl) rfl 0 rfl ?_
  repeat' (first | refine o1 ?_ | refine o2 ?_ | refine k1 ?_ | refine k2 ?_ | refine k7 ?_ | (change retOk _ _ _ _; refine ret_pure rfl trivial ?_) | (change vcFun _ _ (_ ++ pvs _) _ _; refine call_cap rfl (by repeat' (first | trivial | refine And.intro ?_ ?_ | (show 0 + _ ≤ List.length _; simp))) (h) rfl ?_) | fail)
  rfl
theorem c_hasS (r : Reg) (c : Class) (hr : RegS r) (hc : c ∈ r.classes) : ∀ (s : Sel) (hs : SelL s) (hb : soundB s = true), HasOk r c s := by
  intro s hs
  induction hs with
  | mk hl hk ih =>
    rename_i k n l
    intro hb
    rw [sound_mk, Bool.and_eq_true] at hb
    obtain ⟨hb1, hb2⟩ := hb
    have hkid : ∀ q ∈ l, HasOk r c q := fun q hq => ih q hq (List.all_eq_true.1 hb1 q hq)
    obtain ⟨hh, hkp⟩ := form_iff.1 hb2
    have hmt := c_meant r k n l c hr hc
    unfold HasOk
    rw [row_mk] at *
    by_cases h8 : k = 8
    · subst h8
      rw [has_and]
      have hA := c_any_sel l 253 [.ia [.fn 252 [.ia r.cells, .ia c.row]]] (fun q => !hasS r c q) hl fun q hq => c_has2 r c q (hkid q hq)
      have hE : (!l.any fun q => !hasS r c q) = l.all (hasS r c) := by rw [List.all_eq_not_any_not]
      rw [← hE]
      generalize (l.any fun q => !hasS r c q) = A at *
      refine acall_of tok mixed 37 rfl (fn := Tryz.f179) (c := Tryz.f179.body.getD .skip) (by kernel_rfl) (by kernel_rfl) (by kernel_rfl) rfl 0 rfl ?_
      repeat' (first | refine o1 ?_ | refine o2 ?_ | refine k1 ?_ | refine k2 ?_ | refine k3 ?_ | refine k4 ?_ | refine k7 ?_ | refine And.intro ?_ ?_ | (intro h; first | exact Bool.noConfusion h | exact nz _ h | exact nl h | (simp at h; done) | (simp at h; first | (exfalso; omega) | skip) | skip) | (change retOk _ _ _ _; refine ret_pure rfl trivial ?_) | exact (by kernel_rfl : drawOk _ _ = true) | (change vcFun _ _ _ _ _; refine call_eq rfl (by repeat' (first | trivial | refine And.intro ?_ ?_ | (show 0 + _ ≤ List.length _; simp))) ALeL.refl (hA) rfl ?_) | fail)
      rfl
    · by_cases h9 : k = 9
      · subst h9
        rw [has_or]
        have hA := c_any_sel l 252 [.ia r.cells, .ia c.row] (hasS r c) hl fun q hq => c_has1 r c q (hkid q hq)
        generalize l.any (hasS r c) = A at *
        refine acall_of tok mixed 37 rfl (fn := Tryz.f179) (c := Tryz.f179.body.getD .skip) (by kernel_rfl) (by kernel_rfl) (by kernel_rfl) rfl 0 rfl ?_
        repeat' (first | refine o1 ?_ | refine o2 ?_ | refine k1 ?_ | refine k2 ?_ | refine k3 ?_ | refine k4 ?_ | refine k7 ?_ | refine And.intro ?_ ?_ | (intro h; first | exact Bool.noConfusion h | exact nz _ h | exact nl h | (simp at h; done) | (simp at h; first | (exfalso; omega) | skip) | skip) | (change retOk _ _ _ _; refine ret_pure rfl trivial ?_) | exact (by kernel_rfl : drawOk _ _ = true) | (change vcFun _ _ _ _ _; refine call_eq rfl (by repeat' (first | trivial | refine And.intro ?_ ?_ | (show 0 + _ ≤ List.length _; simp))) ALeL.refl (hA) rfl ?_) | fail)
        rfl
      · by_cases h10 : k = 10
        · subst h10
          obtain ⟨q, rfl⟩ : ∃ q, l = [q] := by
            unfold kidsP at hkp
            rw [if_neg (by decide), if_pos rfl] at hkp
            exact List.length_eq_one_iff.1 hkp
          rw [has_not]
          have hq := c_has1 r c q (hkid q (by simp))
          generalize hasS r c q = B at *
          obtain ⟨kq, nq, lq⟩ := q
          refine acall_of tok mixed 37 rfl (fn := Tryz.f179) (c := Tryz.f179.body.getD .skip) (by kernel_rfl) (by kernel_rfl) (by kernel_rfl) rfl 0 rfl ?_
          repeat' (first | (refine idx_sl (k := 0) rfl rfl ?_) | refine o1 ?_ | refine o2 ?_ | refine k1 ?_ | refine k2 ?_ | refine k3 ?_ | refine k4 ?_ | refine k7 ?_ | refine And.intro ?_ ?_ | refine o3 ?_ | refine o4 ?_ | (intro h; first | exact Bool.noConfusion h | exact nz _ h | exact nl h | (simp at h; done) | (simp at h; first | (exfalso; omega) | skip) | skip) | (change retOk _ _ _ _; refine ret_pure rfl trivial ?_) | exact (by kernel_rfl : drawOk _ _ = true) | (change vcFunD _ _ _ _ _; refine callD_eq rfl (by repeat' (first | trivial | refine And.intro ?_ ?_ | (show 0 + _ ≤ List.length _; simp))) ALeL.refl (hq) rfl ?_) | fail)
          rfl
        · rw [has_leaf (by unfold headP at hh; omega)]
          generalize leafB r k n c = B at *
          refine acall_of tok mixed 37 rfl (fn := Tryz.f179) (c := Tryz.f179.body.getD .skip) (by kernel_rfl) (by kernel_rfl) (by kernel_rfl) rfl 0 rfl ?_
          repeat' (first | refine o1 ?_ | refine o2 ?_ | refine k1 ?_ | refine k2 ?_ | refine k3 ?_ | refine k4 ?_ | refine k6 ?_ | refine k7 ?_ | refine And.intro ?_ ?_ | (intro h; first | exact Bool.noConfusion h | exact nz _ h | exact nl h | (simp at h; done) | (simp at h; first | (exfalso; omega) | skip) | skip) | (change retOk _ _ _ _; refine ret_pure rfl trivial ?_) | exact (by kernel_rfl : drawOk _ _ = true) | (change vcFun _ _ _ _ _; refine call_eq rfl (by repeat' (first | trivial | refine And.intro ?_ ?_ | (show 0 + _ ≤ List.length _; simp))) ALeL.refl (hmt) rfl ?_) | fail)
          rfl
-- Which names are known.
noncomputable def leafK (r : Reg) (k : Int) (n : Str) : Bool := if k = 5 then decide (idxU r.curris n ≥ 0) else if k = 6 then decide (idxL r.staff n ≥ 0) else (decide (k = 7) && r.rooms.any fun x => pB (n ∈ x.feats)) || r.classes.any (leafB r k n)
mutual
noncomputable def knownS (r : Reg) : Sel → Bool
  | .mk k n l => if pB (namedP k) then leafK r k n else knownL r l
noncomputable def knownL (r : Reg) : List Sel → Bool
  | [] => true
  | q :: l => knownS r q && knownL r l
end
theorem knownL_all {r : Reg} : ∀ l : List Sel, knownL r l = l.all (knownS r)
  | [] => by rw [knownL]; rfl
  | q :: l => by rw [knownL, knownL_all l]; rfl
theorem known_leaf {r : Reg} {k : Int} {n : Str} {l : List Sel} (h : namedP k) : knownS r (.mk k n l) = leafK r k n := by rw [knownS, pB_t h, if_pos rfl]
theorem known_all {r : Reg} {k : Int} {n : Str} {l : List Sel} (h : ¬ namedP k) : knownS r (.mk k n l) = l.all (knownS r) := by rw [knownS, pB_f h, if_neg (by simp), knownL_all]
def KnownOk (r : Reg) (s : Sel) : Prop := PCall Tryz.prog 178 [ag r.cells, ag s.row] (fun a => a = vbool (knownS r s))
theorem c_known1 (x : Room) (k : Int) (n : Str) (l : List Sel) (hx : x.feats.length ≤ 100000) : PCall Tryz.prog 248 [ag x.row, .pv (.ia (Sel.row (.mk k n l)))] (fun a => a = vbool (pB (n ∈ x.feats))) := by
  have h := c_contains x.feats n hx
  rw [row_mk]
  refine acall_of tok mixed 9 rfl (fn := Tryz.f248) (c := Tryz.f248.body.getD .skip) (by kernel_rfl) (by kernel_rfl) (by kernel_rfl) rfl 0 rfl ?_
  repeat' (first | refine o1 ?_ | refine o2 ?_ | refine k1 ?_ | refine k2 ?_ | refine k7 ?_ | (change retOk _ _ _ _; refine ret_pure rfl trivial ?_) | (change vcFun _ _ _ _ _; refine call_eq rfl (by repeat' (first | trivial | refine And.intro ?_ ?_ | (show 0 + _ ≤ List.length _; simp))) ALeL.refl (h) rfl ?_) | fail)
  rfl
theorem c_known2 (r : Reg) (k : Int) (n : Str) (l : List Sel) (c : Class) (hr : RegS r) (hc : c ∈ r.classes) : PCall Tryz.prog 249 [ag c.row, .pv (.ia r.cells), .pv (.ia (Sel.row (.mk k n l)))] (fun a => a = vbool (leafB r k n c)) := by
  have h := c_meant r k n l c hr hc
  rw [row_mk] at *
  generalize leafB r k n c = B at *
  refine acall_of tok mixed 9 rfl (fn := Tryz.f249) (c := Tryz.f249.body.getD .skip) (by kernel_rfl) (by kernel_rfl) (by kernel_rfl) rfl 0 rfl ?_
  repeat' (first | refine o1 ?_ | refine o2 ?_ | refine k1 ?_ | refine k2 ?_ | refine k7 ?_ | (change retOk _ _ _ _; refine ret_pure rfl trivial ?_) | (change vcFun _ _ _ _ _; refine call_eq rfl (by repeat' (first | trivial | refine And.intro ?_ ?_ | (show 0 + _ ≤ List.length _; simp))) ALeL.refl (h) rfl ?_) | fail)
  rfl
theorem c_known3 (r : Reg) (q : Sel) (h : KnownOk r q) : PCall Tryz.prog 251 [ag q.row, .pv (.ia r.cells)] (fun a => a = vbool (!knownS r q)) := by
  unfold KnownOk at h
  generalize knownS r q = B at *
  obtain ⟨k, n, l⟩ := q
  rw [row_mk] at *
  refine acall_of tok mixed 8 rfl (fn := Tryz.f251) (c := Tryz.f251.body.getD .skip) (by kernel_rfl) (by kernel_rfl) (by kernel_rfl) rfl 0 rfl ?_
  repeat' (first | refine o1 ?_ | refine o2 ?_ | refine k1 ?_ | refine k2 ?_ | refine k7 ?_ | (change retOk _ _ _ _; refine ret_pure rfl trivial ?_) | (change vcFun _ _ _ _ _; refine call_eq rfl (by repeat' (first | trivial | refine And.intro ?_ ?_ | (show 0 + _ ≤ List.length _; simp))) ALeL.refl (h) rfl ?_) | fail)
  rfl
theorem c_knownS (r : Reg) (hr : RegS r) (hf : ∀ x ∈ r.rooms, x.feats.length ≤ 100000) : ∀ (s : Sel) (hs : SelL s) (hb : soundB s = true), KnownOk r s := by
  intro s hs
  induction hs with
  | mk hl hk ih =>
    rename_i k n l
    intro hb
    rw [sound_mk, Bool.and_eq_true] at hb
    obtain ⟨hb1, hb2⟩ := hb
    obtain ⟨hh, hkp⟩ := form_iff.1 hb2
    have hkid : ∀ q ∈ l, KnownOk r q := fun q hq => ih q hq (List.all_eq_true.1 hb1 q hq)
    unfold KnownOk
    by_cases hn : namedP k
    · rw [known_leaf hn]
      unfold namedP at hn
      have hi5 := c_indexR r 5 n hr.lens
      have hi6 := c_indexR r 3 n hr.lens
      rw [indexR5] at hi5
      rw [indexR3] at hi6
      have hA := c_any_room r.rooms 248 [.ia (Sel.row (.mk k n l))] (fun x => pB (n ∈ x.feats)) hr.lens.rooms fun x hx => c_known1 x k n l (hf x hx)
      have hB := c_any_class r.classes 249 [.ia r.cells, .ia (Sel.row (.mk k n l))] (leafB r k n) hr.lens.classes fun c hc => c_known2 r k n l c hr hc
      unfold leafK
      rw [row_mk] at *
      generalize (r.rooms.any fun x => pB (n ∈ x.feats)) = A at *
      generalize r.classes.any (leafB r k n) = B at *
      generalize idxU r.curris n = I5 at *
      generalize idxL r.staff n = I6 at *
      refine acall_of tok mixed 40 rfl (fn := Tryz.f178) (c := Tryz.f178.body.getD .skip) (by kernel_rfl) (by kernel_rfl) (by kernel_rfl) rfl 0 rfl ?_
      repeat' (first | refine o1 ?_ | refine o2 ?_ | refine k1 ?_ | refine k2 ?_ | refine k3 ?_ | refine k4 ?_ | refine k6 ?_ | refine k7 ?_ | refine k8 ?_ | refine And.intro ?_ ?_ | (intro h; first | exact Bool.noConfusion h | exact nz _ h | exact nl h | (simp at h; done) | (simp at h; first | (exfalso; omega) | skip) | skip) | (change retOk _ _ _ _; refine ret_pure rfl trivial ?_) | (change vcFun _ _ _ _ _; refine call_eq rfl (by repeat' (first | trivial | refine And.intro ?_ ?_ | (show 0 + _ ≤ List.length _; simp))) ALeL.refl (hi5) rfl ?_) | (change vcFun _ _ _ _ _; refine call_eq rfl (by repeat' (first | trivial | refine And.intro ?_ ?_ | (show 0 + _ ≤ List.length _; simp))) ALeL.refl (hi6) rfl ?_) | (change vcFun _ _ _ _ _; refine call_eq rfl (by repeat' (first | trivial | refine And.intro ?_ ?_ | (show 0 + _ ≤ List.length _; simp))) ALeL.refl (hA) rfl ?_) | (change vcFun _ _ _ _ _; refine call_eq rfl (by repeat' (first | trivial | refine And.intro ?_ ?_ | (show 0 + _ ≤ List.length _; simp))) ALeL.refl (hB) rfl ?_) | fail)
      all_goals
        refine congrArg vbool ?_
        simp [*]
    · rw [known_all hn]
      unfold namedP at hn
      have hA := c_any_sel l 251 [.ia r.cells] (fun q => !knownS r q) hl fun q hq => c_known3 r q (hkid q hq)
      have hE : (!l.any fun q => !knownS r q) = l.all (knownS r) := by rw [List.all_eq_not_any_not]
      rw [← hE]
      generalize (l.any fun q => !knownS r q) = A at *
      rw [row_mk]
      refine acall_of tok mixed 40 rfl (fn := Tryz.f178) (c := Tryz.f178.body.getD .skip) (by kernel_rfl) (by kernel_rfl) (by kernel_rfl) rfl 0 rfl ?_
      repeat' (first | refine o1 ?_ | refine o2 ?_ | refine k1 ?_ | refine k2 ?_ | refine k3 ?_ | refine k4 ?_ | refine k6 ?_ | refine k7 ?_ | refine k8 ?_ | refine And.intro ?_ ?_ | (intro h; first | exact Bool.noConfusion h | exact nz _ h | exact nl h | (simp at h; done) | (simp at h; first | (exfalso; omega) | skip) | skip) | (change retOk _ _ _ _; refine ret_pure rfl trivial ?_) | (change vcFun _ _ _ _ _; refine call_eq rfl (by repeat' (first | trivial | refine And.intro ?_ ?_ | (show 0 + _ ≤ List.length _; simp))) ALeL.refl (hA) rfl ?_) | fail)
      rfl
end Go.Proofs.YtmaambipopgdkaaGreat.Cw

/-
  Selections: which classes they mean, and which names are known, by the reference; Members.
-/
namespace Go.Proofs.YtmaambipopgdkaaGreat.Cw
open Go.Cw Go.Proofs
set_option linter.unusedVariables false
set_option maxRecDepth 100000
set_option maxHeartbeats 4000000

def RMeantOk (r : Reg) (i : Nat) (c : Class) (s : Sel) : Prop := PCall Tryz.prog 68 [ag r.cells, ag s.row, vint .i64 i] (fun a => a = vbool (hasS r c s))
theorem cntS_le {r : Reg} {c : Class} {l : List Sel} : cntS r c l ≤ l.length := by rw [cntS_eq]; exact List.countP_le_length
theorem cnt_snoc {r : Reg} {c : Class} {l : List Sel} {i : Nat} {q : Sel} (h : l[i]? = some q) : cntS r c (l.take (i + 1)) = cntS r c (l.take i) + (if hasS r c q then 1 else 0) := by
  rw [take_snoc h, cntS_eq, cntS_eq, List.countP_append]
  simp [List.countP_cons]
theorem c_rmeant (r : Reg) (i : Nat) (c : Class) (hr : RegS r) (hc : r.classes[i]? = some c) : ∀ (s : Sel) (hs : SelL s) (hb : soundB s = true), RMeantOk r i c s := by
  have hcm := List.mem_of_getElem? hc
  intro s hs
  induction hs with
  | mk hl hk ih =>
    rename_i k n l
    intro hb
    rw [sound_mk, Bool.and_eq_true] at hb
    obtain ⟨hb1, hb2⟩ := hb
    have hkid : ∀ q ∈ l, RMeantOk r i c q := fun q hq => ih q hq (List.all_eq_true.1 hb1 q hq)
    obtain ⟨hh, hkp⟩ := form_iff.1 hb2
    have hi := hr.lens.classes
    have hlt0 := (List.getElem?_eq_some_iff.1 hc).1
    unfold RMeantOk
    rw [row_mk] at *
    by_cases h8 : k = 8 ∨ k = 9 ∨ k = 10
    · have hcl := cntS_le (r := r) (c := c) (l := l)
      have hS : hasS r c (.mk k n l) = if k = 8 then decide (cntS r c l = l.length) else if k = 9 then decide (0 < cntS r c l) else decide (cntS r c l = 0) := by
        rw [hasS]
        rcases h8 with rfl | rfl | rfl <;> rfl
      rw [hS]
      refine acall_of tok mixed 106 rfl (fn := Tryz.f68) (c := Tryz.f68.body.getD .skip) (by kernel_rfl) (by kernel_rfl) (by kernel_rfl) rfl 0 rfl ?_
      repeat' (first | refine o1 ?_ | refine o2 ?_ | refine k1 ?_ | refine k2 ?_ | refine k3 ?_ | refine k4 ?_ | refine k6 ?_ | refine And.intro ?_ ?_ | (intro h; first | exact Bool.noConfusion h | exact nz _ h | exact nl h | (simp at h; done) | (simp at h; first | (exfalso; omega) | skip) | skip) | exact (by kernel_rfl : drawOk _ _ = true) | refine ⟨_, _, (by first | rfl | assumption), at_map (by assumption), ?_⟩ | fail)
      all_goals try (exfalso; omega)
      refine loop_in (fun j : Nat => [(9, vint .i64 (cntS r c (l.take j) : Nat)), (10, vint .i64 j)]) (fun _ => [some ⟨37, 14, false, .box (pvs r.cells)⟩, some ⟨55, 3, false, .box (pvs [ei k, es n, .sl 3 (l.map Sel.row)])⟩, some ⟨98, 9, false, .box (pvs c.row)⟩]) (fun j => j ≤ l.length) (fun j => l.length - j) 0 (Nat.zero_le _) ⟨?_, ?_⟩
      · exact back [0, 1, 2] rfl rfl ⟨rfl, rfl, rfl, trivial⟩ (by repeat' (first | exact trivial | exact rfl | refine And.intro ?_ ?_))
      intro j hj
      have hcj := cntS_le (r := r) (c := c) (l := l.take j)
      have hcj2 := List.length_take_le j l
      rcases Nat.lt_or_ge j l.length with hlt | hge
      · obtain ⟨⟨kq, nq, lq⟩, hq⟩ := getE hlt
        have hcall := hkid _ (List.mem_of_getElem? hq)
        unfold RMeantOk at hcall
        have hsn := cnt_snoc (r := r) (c := c) hq
        generalize hasS r c (.mk kq nq lq) = B at *
        generalize cntS r c (l.take j) = CJ at *
        repeat' (first | refine o1 ?_ | refine o2 ?_ | refine k1 ?_ | refine k2 ?_ | refine k3 ?_ | refine k4 ?_ | refine k6 ?_ | refine And.intro ?_ ?_ | refine o3 ?_ | refine o4 ?_ | (intro h; first | exact Bool.noConfusion h | exact nz _ h | exact nl h | (simp at h; done) | (simp at h; first | (exfalso; omega) | skip) | skip) | exact (by kernel_rfl : drawOk _ _ = true) | refine eqv_len_map ?_ | refine eqv_wrap (by omega) (by omega) ?_ | refine ⟨_, _, (by first | rfl | assumption), at_map (by assumption), ?_⟩ | (change vcFunD _ _ _ _ _; refine callD_eq rfl (by repeat' (first | trivial | refine And.intro ?_ ?_ | (show 0 + _ ≤ List.length _; simp))) ALeL.refl (hcall) rfl ?_) | fail)
        · refine ⟨j + 1, by omega, by omega, ?_⟩
          rw [hsn, (by assumption : B = true), if_pos rfl, Int.natCast_add]
          exact back [0, 1, 2] rfl rfl ⟨rfl, rfl, rfl, trivial⟩ (by repeat' (first | exact trivial | exact rfl | refine And.intro ?_ ?_))
        · refine ⟨j + 1, by omega, by omega, ?_⟩
          rw [hsn, (by assumption : B = false), if_neg (by simp), Nat.add_zero]
          exact back [0, 1, 2] rfl rfl ⟨rfl, rfl, rfl, trivial⟩ (by repeat' (first | exact trivial | exact rfl | refine And.intro ?_ ?_))
      obtain rfl : j = l.length := by omega
      rw [List.take_length] at *
      generalize cntS r c l = CJ at *
      repeat' (first | refine o1 ?_ | refine o2 ?_ | refine k1 ?_ | refine k2 ?_ | refine k3 ?_ | refine k4 ?_ | refine k6 ?_ | refine k7 ?_ | refine k8 ?_ | refine And.intro ?_ ?_ | (intro h; first | exact Bool.noConfusion h | exact nz _ h | exact nl h | (simp at h; done) | (simp at h; first | (exfalso; omega) | skip) | skip) | (change retOk _ _ _ _; refine ret_pure rfl trivial ?_) | refine eqv_len_map ?_ | fail)
      all_goals
        refine congrArg vbool (Bool.eq_iff_iff.2 ?_)
        simp [*] <;> omega
    · rw [has_leaf (by unfold headP at hh; omega)]
      have hi5 := c_rindexR r 5 n hr.lens
      rw [indexR5] at hi5
      have h3 := c_has c.staff n (hr.cls c hcm).1
      have h4 := c_has c.feats n (hr.cls c hcm).2
      have hcur := fun h => curC_no (r := r) (s := n) h
      unfold leafB
      by_cases h0 : idxU r.curris n < 0
      · rw [curC_no h0]
        generalize idxU r.curris n = X at *
        refine acall_of tok mixed 106 rfl (fn := Tryz.f68) (c := Tryz.f68.body.getD .skip) (by kernel_rfl) (by kernel_rfl) (by kernel_rfl) rfl 0 rfl ?_
        repeat' (first | refine o1 ?_ | refine o2 ?_ | refine k1 ?_ | refine k2 ?_ | refine k3 ?_ | refine k4 ?_ | refine k6 ?_ | refine k7 ?_ | refine And.intro ?_ ?_ | refine o3 ?_ | refine o4 ?_ | (intro h; first | exact Bool.noConfusion h | exact nz _ h | exact nl h | (simp at h; done) | (simp at h; first | (exfalso; omega) | skip) | skip) | (change retOk _ _ _ _; refine ret_pure rfl trivial ?_) | exact (by kernel_rfl : drawOk _ _ = true) | refine ⟨_, _, (by first | rfl | assumption), at_map (by assumption), ?_⟩ | (change vcFun _ _ _ _ _; refine call_eq rfl (by repeat' (first | trivial | refine And.intro ?_ ?_ | (show 0 + _ ≤ List.length _; simp))) ALeL.refl (hi5) rfl ?_) | (change vcFun _ _ _ _ _; refine call_eq rfl (by repeat' (first | trivial | refine And.intro ?_ ?_ | (show 0 + _ ≤ List.length _; simp))) ALeL.refl (h3) rfl ?_) | (change vcFun _ _ _ _ _; refine call_eq rfl (by repeat' (first | trivial | refine And.intro ?_ ?_ | (show 0 + _ ≤ List.length _; simp))) ALeL.refl (h4) rfl ?_) | fail)
        all_goals
          first
            | (refine congrArg vbool ?_; simp [*]; done)
            | (exfalso; unfold headP at hh; omega)
      · obtain ⟨j, x, e, hx, -⟩ := idxB_in (p := fun y : Curri => pB (y.code = n)) (l := r.curris) (by unfold idxU at h0; omega)
        have e : idxU r.curris n = j := e
        rw [curC_at e hx]
        rw [e] at hi5
        have h5 := c_has x.courses c.course (hr.cur x (List.mem_of_getElem? hx))
        refine acall_of tok mixed 106 rfl (fn := Tryz.f68) (c := Tryz.f68.body.getD .skip) (by kernel_rfl) (by kernel_rfl) (by kernel_rfl) rfl 0 rfl ?_
        repeat' (first | refine o1 ?_ | refine o2 ?_ | refine k1 ?_ | refine k2 ?_ | refine k3 ?_ | refine k4 ?_ | refine k6 ?_ | refine k7 ?_ | refine And.intro ?_ ?_ | refine o3 ?_ | refine o4 ?_ | (intro h; first | exact Bool.noConfusion h | exact nz _ h | exact nl h | (simp at h; done) | (simp at h; first | (exfalso; omega) | skip) | skip) | (change retOk _ _ _ _; refine ret_pure rfl trivial ?_) | exact (by kernel_rfl : drawOk _ _ = true) | refine ⟨_, _, (by first | rfl | assumption), at_map (by assumption), ?_⟩ | (change vcFun _ _ _ _ _; refine call_eq rfl (by repeat' (first | trivial | refine And.intro ?_ ?_ | (show 0 + _ ≤ List.length _; simp))) ALeL.refl (hi5) rfl ?_) | (change vcFun _ _ _ _ _; refine call_eq rfl (by repeat' (first | trivial | refine And.intro ?_ ?_ | (show 0 + _ ≤ List.length _; simp))) ALeL.refl (h3) rfl ?_) | (change vcFun _ _ _ _ _; refine call_eq rfl (by repeat' (first | trivial | refine And.intro ?_ ?_ | (show 0 + _ ≤ List.length _; simp))) ALeL.refl (h4) rfl ?_) | (change vcFunD _ _ _ _ _; refine callD_eq rfl (by repeat' (first | trivial | refine And.intro ?_ ?_ | (show 0 + _ ≤ List.length _; simp))) ALeL.refl (h5) rfl ?_) | fail)
        all_goals
          first
            | (refine congrArg vbool ?_; simp [*]; done)
            | (exfalso; unfold headP at hh; omega)
def RKnownOk (r : Reg) (s : Sel) : Prop := PCall Tryz.prog 67 [ag r.cells, ag s.row] (fun a => a = vbool (knownS r s))
theorem leafK2 {r : Reg} {n : Str} : leafK r 2 n = decide (idxC r.classes n ≥ 0) := by
  unfold leafK idxC
  rw [if_neg (by decide), if_neg (by decide), idxB_any]
  have e : (fun y : Class => pB (y.code = n)) = leafB r 2 n := by
    funext y
    unfold leafB
    rw [if_neg (by decide), if_pos rfl]
    exact (pB_eq sEq_iff).symm
  rw [e]; rfl
theorem c_rknown (r : Reg) (hr : RegS r) (hf : ∀ x ∈ r.rooms, x.feats.length ≤ 100000) : ∀ (s : Sel) (hs : SelL s) (hb : soundB s = true), RKnownOk r s := by
  intro s hs
  induction hs with
  | mk hl hk ih =>
    rename_i k n l
    intro hb
    have hb0 := hb
    rw [sound_mk, Bool.and_eq_true] at hb
    obtain ⟨hb1, hb2⟩ := hb
    obtain ⟨hh, hkp⟩ := form_iff.1 hb2
    have hkid : ∀ q ∈ l, RKnownOk r q := fun q hq => ih q hq (List.all_eq_true.1 hb1 q hq)
    have hmt := fun (i : Nat) (c : Class) (hc : r.classes[i]? = some c) => c_rmeant r i c hr hc (.mk k n l) (.mk hl hk) hb0
    have hi5 := c_rindexR r 5 n hr.lens
    have hi6 := c_rindexR r 3 n hr.lens
    have hi4 := c_rindexR r 4 n hr.lens
    have hcn := hr.lens.classes
    have hrn := hr.lens.rooms
    rw [indexR5] at hi5
    rw [indexR3] at hi6
    rw [indexR4] at hi4
    unfold RKnownOk
    rw [row_mk] at *
    refine acall_of tok mixed 82 rfl (fn := Tryz.f67) (c := Tryz.f67.body.getD .skip) (by kernel_rfl) (by kernel_rfl) (by kernel_rfl) rfl 0 rfl ?_
    repeat' (first | refine o1 ?_ | refine o2 ?_ | refine k1 ?_ | refine k2 ?_ | refine k4 ?_ | fail)
    refine loop_in (fun j : Nat => [(5, vint .i64 j)]) (fun _ => [some ⟨37, 14, false, .box (pvs r.cells)⟩, some ⟨55, 3, false, .box (pvs [ei k, es n, .sl 3 (l.map Sel.row)])⟩]) (fun j => j ≤ l.length ∧ ∀ i, i < j → ∀ q, l[i]? = some q → knownS r q = true) (fun j => l.length - j) 0 ⟨Nat.zero_le _, fun i hi => by omega⟩ ⟨?_, ?_⟩
    · exact back [0, 1] rfl rfl ⟨rfl, rfl, trivial⟩ (by repeat' (first | exact trivial | exact rfl | refine And.intro ?_ ?_))
    intro j ⟨hj, hall⟩
    rcases Nat.lt_or_ge j l.length with hlt | hge
    · obtain ⟨⟨kq, nq, lq⟩, hq⟩ := getE hlt
      have hcall := hkid _ (List.mem_of_getElem? hq)
      unfold RKnownOk at hcall
      generalize hB : knownS r (.mk kq nq lq) = B at *
      repeat' (first | refine o1 ?_ | refine o2 ?_ | refine k1 ?_ | refine k2 ?_ | refine k3 ?_ | refine k4 ?_ | refine k6 ?_ | refine k7 ?_ | refine And.intro ?_ ?_ | refine o3 ?_ | refine o4 ?_ | (intro h; first | exact Bool.noConfusion h | exact nz _ h | exact nl h | (simp at h; done) | (simp at h; first | (exfalso; omega) | skip) | skip) | (change retOk _ _ _ _; refine ret_pure rfl trivial ?_) | exact (by kernel_rfl : drawOk _ _ = true) | refine eqv_len_map ?_ | refine eqv_wrap (by omega) (by omega) ?_ | refine ⟨_, _, (by first | rfl | assumption), at_map (by assumption), ?_⟩ | (change vcFunD _ _ _ _ _; refine callD_eq rfl (by repeat' (first | trivial | refine And.intro ?_ ?_ | (show 0 + _ ≤ List.length _; simp))) ALeL.refl (hcall) rfl ?_) | fail)
      · refine congrArg vbool ?_
        have hm := List.mem_of_getElem? hq
        have hnl : l.length ≠ 0 := by omega
        have hk8 : ¬ namedP k := fun hn => by
          unfold namedP at hn; unfold kidsP at hkp
          rw [if_neg (by omega), if_neg (by omega)] at hkp
          exact hnl hkp
        rw [known_all hk8]
        exact (List.all_eq_false.2 ⟨_, hm, by rw [hB]; simp [*]⟩).symm
      · exact ⟨j + 1, ⟨by omega, all_lt_succ hall fun y hy => by rw [hq] at hy; cases hy; rw [hB]; assumption⟩, by omega, back [0, 1] rfl rfl ⟨rfl, rfl, trivial⟩ (by repeat' (first | exact trivial | exact rfl | refine And.intro ?_ ?_))⟩
    obtain rfl : j = l.length := by omega
    have hal : l.all (knownS r) = true := List.all_eq_true.2 fun q hm => by
      obtain ⟨j, hj⟩ := List.getElem?_of_mem hm
      exact hall j (List.getElem?_eq_some_iff.1 hj).1 q hj
    have hleaf : ∀ c, (2 ≤ k ∧ k ≤ 7) → hasS r c (.mk k n l) = leafB r k n c := fun c h => has_leaf (by omega)
    have hlk : (2 ≤ k ∧ k ≤ 7) → knownS r (.mk k n l) = leafK r k n := fun h => known_leaf h
    have h3 : (k = 3 ∨ k = 4 ∨ k = 7) → leafK r k n = ((decide (k = 7) && r.rooms.any fun x => pB (n ∈ x.feats)) || r.classes.any (leafB r k n)) := fun h => by
      unfold leafK; rw [if_neg (by omega), if_neg (by omega)]
    repeat' (first | refine o1 ?_ | refine o2 ?_ | refine k1 ?_ | refine k2 ?_ | refine k3 ?_ | refine k4 ?_ | refine k6 ?_ | refine k7 ?_ | refine k8 ?_ | refine And.intro ?_ ?_ | (intro h; first | exact Bool.noConfusion h | exact nz _ h | exact nl h | (simp at h; done) | (simp at h; first | (exfalso; omega) | skip) | skip) | (change retOk _ _ _ _; refine ret_pure rfl trivial ?_) | refine eqv_len_map ?_ | (change vcFun _ _ _ _ _; refine call_eq rfl (by repeat' (first | trivial | refine And.intro ?_ ?_ | (show 0 + _ ≤ List.length _; simp))) ALeL.refl (hi5) rfl ?_) | (change vcFun _ _ _ _ _; refine call_eq rfl (by repeat' (first | trivial | refine And.intro ?_ ?_ | (show 0 + _ ≤ List.length _; simp))) ALeL.refl (hi6) rfl ?_) | (change vcFun _ _ _ _ _; refine call_eq rfl (by repeat' (first | trivial | refine And.intro ?_ ?_ | (show 0 + _ ≤ List.length _; simp))) ALeL.refl (hi4) rfl ?_) | fail)
    all_goals first
      | (refine congrArg vbool ?_; rw [hlk (by omega), (by assumption : k = 2), leafK2]; done)
      | (refine congrArg vbool ?_; rw [hlk (by omega), (by assumption : k = 5)]; rfl)
      | (refine congrArg vbool ?_; rw [hlk (by omega), (by assumption : k = 6)]; rfl)
      | (refine congrArg vbool ?_; rw [known_all (by unfold namedP; omega), hal]; done)
      | skip
    all_goals
      have hk347 : k = 3 ∨ k = 4 ∨ k = 7 := by omega
      rw [hlk (by omega), h3 hk347]
      refine loop_in (fun j : Nat => [(6, vint .i64 j)]) (fun _ => [some ⟨37, 14, false, .box (pvs r.cells)⟩, some ⟨55, 3, false, .box (pvs [ei k, es n, .sl 3 (l.map Sel.row)])⟩]) (fun j => j ≤ r.classes.length ∧ ∀ i, i < j → ∀ c, r.classes[i]? = some c → leafB r k n c = false) (fun j => r.classes.length - j) 0 ⟨Nat.zero_le _, fun i hi => by omega⟩ ⟨?_, ?_⟩
      · exact back [0, 1] rfl rfl ⟨rfl, rfl, trivial⟩ (by repeat' (first | exact trivial | exact rfl | refine And.intro ?_ ?_))
      intro j ⟨hj, hcl⟩
      rcases Nat.lt_or_ge j r.classes.length with hlt | hge
      · obtain ⟨c, hc⟩ := getE hlt
        have hcall := hmt j c hc
        unfold RMeantOk at hcall
        rw [hleaf c (by omega), row_mk] at hcall
        generalize hB : leafB r k n c = B at *
        repeat' (first | refine o1 ?_ | refine o2 ?_ | refine k1 ?_ | refine k2 ?_ | refine k3 ?_ | refine k4 ?_ | refine k6 ?_ | refine k7 ?_ | refine And.intro ?_ ?_ | (intro h; first | exact Bool.noConfusion h | exact nz _ h | exact nl h | (simp at h; done) | (simp at h; first | (exfalso; omega) | skip) | skip) | (change retOk _ _ _ _; refine ret_pure rfl trivial ?_) | refine eqv_len_map ?_ | refine eqv_wrap (by omega) (by omega) ?_ | (change vcFun _ _ _ _ _; refine call_eq rfl (by repeat' (first | trivial | refine And.intro ?_ ?_ | (show 0 + _ ≤ List.length _; simp))) ALeL.refl (hcall) rfl ?_) | fail)
        · refine congrArg vbool ?_
          rw [List.any_eq_true.2 ⟨c, List.mem_of_getElem? hc, by rw [hB]; assumption⟩, Bool.or_true]
        · exact ⟨j + 1, ⟨by omega, all_lt_succ hcl fun y hy => by rw [hc] at hy; cases hy; rw [hB]; assumption⟩, by omega, back [0, 1] rfl rfl ⟨rfl, rfl, trivial⟩ (by repeat' (first | exact trivial | exact rfl | refine And.intro ?_ ?_))⟩
      obtain rfl : j = r.classes.length := by omega
      have hca : r.classes.any (leafB r k n) = false := List.any_eq_false.2 fun c hm => by
        obtain ⟨j, hj⟩ := List.getElem?_of_mem hm
        rw [hcl j (List.getElem?_eq_some_iff.1 hj).1 c hj]; simp
      rw [hca, Bool.or_false]
      repeat' (first | refine o1 ?_ | refine o2 ?_ | refine k1 ?_ | refine k2 ?_ | refine k3 ?_ | refine k4 ?_ | refine k8 ?_ | refine And.intro ?_ ?_ | (intro h; first | exact Bool.noConfusion h | exact nz _ h | exact nl h | (simp at h; done) | (simp at h; first | (exfalso; omega) | skip) | skip) | refine eqv_len_map ?_ | fail)
      refine loop_in (fun j : Nat => [(7, vint .i64 j)]) (fun _ => [some ⟨37, 14, false, .box (pvs r.cells)⟩, some ⟨55, 3, false, .box (pvs [ei k, es n, .sl 3 (l.map Sel.row)])⟩]) (fun j => j ≤ r.rooms.length ∧ ∀ i, i < j → ∀ x, r.rooms[i]? = some x → pB (n ∈ x.feats) = false) (fun j => r.rooms.length - j) 0 ⟨Nat.zero_le _, fun i hi => by omega⟩ ⟨?_, ?_⟩
      · exact back [0, 1] rfl rfl ⟨rfl, rfl, trivial⟩ (by repeat' (first | exact trivial | exact rfl | refine And.intro ?_ ?_))
      intro j ⟨hj, hrl⟩
      have hra : ¬ j < r.rooms.length → (r.rooms.any fun x => pB (n ∈ x.feats)) = false := fun hge => List.any_eq_false.2 fun c hm => by
        obtain ⟨i, hi⟩ := List.getElem?_of_mem hm
        rw [hrl i (by have := (List.getElem?_eq_some_iff.1 hi).1; omega) c hi]; simp
      rcases Nat.lt_or_ge j r.rooms.length with hlt | hge
      · obtain ⟨x, hx⟩ := getE hlt
        have hcall := c_has x.feats n (hf x (List.mem_of_getElem? hx))
        repeat' (first | refine o1 ?_ | refine o2 ?_ | refine k1 ?_ | refine k2 ?_ | refine k3 ?_ | refine k4 ?_ | refine k6 ?_ | refine k7 ?_ | refine k8 ?_ | refine And.intro ?_ ?_ | refine o3 ?_ | refine o4 ?_ | (intro h; first | exact Bool.noConfusion h | exact nz _ h | exact nl h | (simp at h; done) | (simp at h; first | (exfalso; omega) | skip) | skip) | (change retOk _ _ _ _; refine ret_pure rfl trivial ?_) | exact (by kernel_rfl : drawOk _ _ = true) | refine eqv_len_map ?_ | refine eqv_wrap (by omega) (by omega) ?_ | refine ⟨_, _, (by first | rfl | assumption), at_map (by assumption), ?_⟩ | (change vcFunD _ _ _ _ _; refine callD_eq rfl (by repeat' (first | trivial | refine And.intro ?_ ?_ | (show 0 + _ ≤ List.length _; simp))) ALeL.refl (hcall) rfl ?_) | fail)
        all_goals first
          | (refine congrArg vbool ?_; rw [List.any_eq_true.2 ⟨x, List.mem_of_getElem? hx, pB_t (by assumption)⟩, Bool.and_true]; simp [*]; done)
          | exact ⟨j + 1, ⟨by omega, all_lt_succ hrl fun y hy => by rw [hx] at hy; cases hy; exact pB_f (by assumption)⟩, by omega, back [0, 1] rfl rfl ⟨rfl, rfl, trivial⟩ (by repeat' (first | exact trivial | exact rfl | refine And.intro ?_ ?_))⟩
          | (refine congrArg vbool ?_; simp [*]; done)
      · rw [hra (by omega), Bool.and_false]
        repeat' (first | refine o1 ?_ | refine o2 ?_ | refine k1 ?_ | refine k2 ?_ | refine k3 ?_ | refine k7 ?_ | refine k8 ?_ | refine And.intro ?_ ?_ | (intro h; first | exact Bool.noConfusion h | exact nz _ h | exact nl h | (simp at h; done) | (simp at h; first | (exfalso; omega) | skip) | skip) | (change retOk _ _ _ _; refine ret_pure rfl trivial ?_) | refine eqv_len_map ?_ | fail)
        all_goals rfl
end Go.Proofs.YtmaambipopgdkaaGreat.Cw

/-
  Selections: the classes that are members.
-/
namespace Go.Proofs.YtmaambipopgdkaaGreat.Cw
open Go.Cw Go.Proofs
set_option linter.unusedVariables false
set_option maxRecDepth 100000
set_option maxHeartbeats 4000000

def eb (b : Bool) : PV := .val (.bool b)
def bRow (b : Bool) : List PV := [eb b]
noncomputable def memB (r : Reg) (s : Sel) : List Bool := r.classes.map fun c => hasS r c s
noncomputable def selE (r : Reg) (s : Sel) : Int := if pB (selP s) then (if knownS r s then 0 else 12) else 4
noncomputable def memV (r : Reg) (s : Sel) : List Bool := if selE r s = 0 then memB r s else []
theorem selE_form {r : Reg} {s : Sel} (h : ¬ selP s) : selE r s = 4 ∧ memV r s = [] := by
  have e : selE r s = 4 := by unfold selE; rw [pB_f h]; rfl
  exact ⟨e, by unfold memV; rw [if_neg (by omega)]⟩
theorem selE_unk {r : Reg} {s : Sel} (h : selP s) (h2 : knownS r s = false) : selE r s = 12 ∧ memV r s = [] := by
  have e : selE r s = 12 := by unfold selE; rw [pB_t h, h2]; rfl
  exact ⟨e, by unfold memV; rw [if_neg (by omega)]⟩
theorem selE_ok {r : Reg} {s : Sel} (h : selP s) (h2 : knownS r s = true) : selE r s = 0 ∧ memV r s = memB r s := by
  have e : selE r s = 0 := by unfold selE; rw [pB_t h, h2]; rfl
  exact ⟨e, by unfold memV; rw [if_pos e]⟩
/-- The first i are known, the others are not yet. -/
noncomputable def memI (r : Reg) (s : Sel) (i : Nat) : List Bool := ((r.classes.take i).map fun c => hasS r c s) ++ List.replicate (r.classes.length - i) false
theorem memI_zero {r : Reg} {s : Sel} : memI r s 0 = List.replicate r.classes.length false := by unfold memI; simp
theorem memI_all {r : Reg} {s : Sel} : memI r s r.classes.length = memB r s := by unfold memI memB; simp
theorem memI_len {r : Reg} {s : Sel} {i : Nat} (h : i ≤ r.classes.length) : (memI r s i).length = r.classes.length := by unfold memI; simp; omega
theorem memI_succ {r : Reg} {s : Sel} {i : Nat} {c : Class} (h : r.classes[i]? = some c) : (memI r s i).set i (hasS r c s) = memI r s (i + 1) := by
  have hi := (List.getElem?_eq_some_iff.1 h).1
  unfold memI
  rw [take_snoc h, List.map_append, List.set_append_right _ _ (by simp; omega)]
  rw [show i - ((r.classes.take i).map fun c => hasS r c s).length = 0 by simp; omega]
  rw [show r.classes.length - i = (r.classes.length - (i + 1)) + 1 by omega, List.replicate_succ]
  simp
theorem c_members0 (r : Reg) (s : Sel) (hr : RegS r) (hf : ∀ x ∈ r.rooms, x.feats.length ≤ 100000) (hs : SelL s) : PCall Tryz.prog 87 [ag r.cells, ag s.row] (fun a => Leq a (.tup [.pv (.sl 1 ((memV r s).map bRow)), vint .i64 (selE r s)])) := by
  have hcn := hr.lens.classes
  have h1 := c_selection s hs
  by_cases hp : selP s
  · rw [pB_t hp] at h1
    have hb := hp.2.2
    have h2 := c_knownS r hr hf s hs hb
    unfold KnownOk at h2
    cases hk : knownS r s
    · obtain ⟨e1, e2⟩ := selE_unk hp hk
      rw [e1, e2]
      rw [hk] at h2
      obtain ⟨k, n, l⟩ := s
      rw [row_mk] at *
      refine acall_of tok mixed 39 rfl (fn := Tryz.f87) (c := Tryz.f87.body.getD .skip) (by kernel_rfl) (by kernel_rfl) (by kernel_rfl) rfl 0 rfl ?_
      repeat' (first | refine o1 ?_ | refine o2 ?_ | refine k1 ?_ | refine k2 ?_ | refine k3 ?_ | refine k4 ?_ | refine k7 ?_ | refine And.intro ?_ ?_ | (intro h; first | exact Bool.noConfusion h | exact nz _ h | exact nl h | (simp at h; done) | (simp at h; first | (exfalso; omega) | skip) | skip) | (change retOk _ _ _ _; refine ret_pure rfl trivial ?_) | (change vcFun _ _ _ _ _; refine call_eq rfl (by repeat' (first | trivial | refine And.intro ?_ ?_ | (show 0 + _ ≤ List.length _; simp))) ALeL.refl (h1) rfl ?_) | (change vcFun _ _ _ _ _; refine call_eq rfl (by repeat' (first | trivial | refine And.intro ?_ ?_ | (show 0 + _ ≤ List.length _; simp))) ALeL.refl (h2) rfl ?_) | fail)
      all_goals first
        | exact ⟨ALe.tup ⟨ALe.pv PLe.nil, ALe.refl, trivial⟩⟩
    · obtain ⟨e1, e2⟩ := selE_ok hp hk
      rw [e1, e2]
      rw [hk] at h2
      have h3 := fun (c : Class) (hc : c ∈ r.classes) => c_hasS r c hr hc s hs hb
      have hz := memI_zero (r := r) (s := s)
      have ha := memI_all (r := r) (s := s)
      have hsc := fun (i : Nat) (c : Class) (h : r.classes[i]? = some c) => memI_succ (s := s) h
      have hln := fun (i : Nat) (h : i ≤ r.classes.length) => memI_len (s := s) h
      unfold HasOk at h3
      rw [← ha]
      generalize memI r s = MI at *
      generalize hHS : (fun c => hasS r c s) = HS at *
      have h3B : ∀ c ∈ r.classes, PCall Tryz.prog 179 [ag r.cells, ag s.row, ag c.row] (fun a => a = vbool (HS c)) := fun c hc => by rw [← hHS]; exact h3 c hc
      clear h3
      have hscB : ∀ (i : Nat) (c : Class), r.classes[i]? = some c → (MI i).set i (HS c) = MI (i + 1) := fun i c h => by rw [← hHS]; exact hsc i c h
      clear hsc
      obtain ⟨k, n, l⟩ := s
      rw [row_mk] at *
      refine acall_of tok mixed 39 rfl (fn := Tryz.f87) (c := Tryz.f87.body.getD .skip) (by kernel_rfl) (by kernel_rfl) (by kernel_rfl) rfl 0 rfl ?_
      repeat' (first | (refine ⟨rfl, r.classes.length, r.classes.length, rfl, rfl, Nat.le_refl _, by omega, by omega, eqv_to ((MI 0).map bRow) (by rw [hz]; simp [bRow, eb]) ?_⟩) | refine o1 ?_ | refine o2 ?_ | refine k1 ?_ | refine k2 ?_ | refine k3 ?_ | refine k4 ?_ | refine k6 ?_ | refine And.intro ?_ ?_ | (intro h; first | exact Bool.noConfusion h | exact nz _ h | exact nl h | (simp at h; done) | (simp at h; first | (exfalso; omega) | skip) | skip) | refine eqv_len_map ?_ | (change vcFun _ _ _ _ _; refine call_eq rfl (by repeat' (first | trivial | refine And.intro ?_ ?_ | (show 0 + _ ≤ List.length _; simp))) ALeL.refl (h1) rfl ?_) | (change vcFun _ _ _ _ _; refine call_eq rfl (by repeat' (first | trivial | refine And.intro ?_ ?_ | (show 0 + _ ≤ List.length _; simp))) ALeL.refl (h2) rfl ?_) | fail)
      refine loop_in (fun i : Nat => [(25, vint .i64 i)]) (fun i => [some ⟨37, 14, false, .box (pvs r.cells)⟩, some ⟨55, 3, false, .box (pvs [ei k, es n, .sl 3 (l.map Sel.row)])⟩, some ⟨4, 1, false, .p ((MI i).map bRow)⟩]) (fun i => i ≤ r.classes.length) (fun i => r.classes.length - i) 0 (Nat.zero_le _) ⟨?_, ?_⟩
      · exact back [0, 1, 2] rfl rfl ⟨rfl, rfl, rfl, trivial⟩ (by repeat' (first | exact trivial | exact rfl | refine And.intro ?_ ?_))
      intro i hi
      have hlen := hln i hi
      rcases Nat.lt_or_ge i r.classes.length with hlt | hge
      · obtain ⟨c, hc⟩ := getE hlt
        obtain ⟨b, hb⟩ := getE (l := MI i) (i := i) (by omega)
        have hcall := h3B c (List.mem_of_getElem? hc)
        have hst := hscB i c hc
        generalize HS c = B at *
        repeat' (first | refine o1 ?_ | refine o2 ?_ | refine k1 ?_ | refine k2 ?_ | refine k3 ?_ | refine k4 ?_ | refine k6 ?_ | refine And.intro ?_ ?_ | (intro h; first | exact Bool.noConfusion h | exact nz _ h | exact nl h | (simp at h; done) | (simp at h; first | (exfalso; omega) | skip) | skip) | exact Nat.le_of_ble_eq_true rfl | exact (by kernel_rfl : drawOk _ _ = true) | refine eqv_zero ?_ | refine eqv_wrap (by omega) (by omega) ?_ | refine eqv_to _ (set_map rfl rfl) ?_ | refine ⟨_, _, (by first | rfl | assumption), at_map (by assumption), ?_⟩ | refine ⟨_, at_map (by assumption), ?_⟩ | refine idx_ms _ (by first | rfl | assumption) (by first | assumption | omega) ?_ | (change vcFun _ _ _ _ _; refine call_eq rfl (by repeat' (first | trivial | refine And.intro ?_ ?_ | (show 0 + _ ≤ List.length _; simp))) ALeL.refl (hcall) rfl ?_) | fail)
        refine ⟨i + 1, by omega, by omega, ?_⟩
        rw [← hst]
        exact back [0, 1, 2] rfl rfl ⟨rfl, rfl, rfl, trivial⟩ (by repeat' (first | exact trivial | exact rfl | refine And.intro ?_ ?_))
      obtain rfl : i = r.classes.length := by omega
      repeat' (first | refine o1 ?_ | refine o2 ?_ | refine k1 ?_ | refine k2 ?_ | refine k3 ?_ | refine k7 ?_ | refine k8 ?_ | refine And.intro ?_ ?_ | (intro h; first | exact Bool.noConfusion h | exact nz _ h | exact nl h | (simp at h; done) | (simp at h; first | (exfalso; omega) | skip) | skip) | fail)
      change retOk _ _ _ _
      refine ret_pure rfl ?_ ⟨ALe.tup ⟨ALe.pv (whole_le (by omega)), ALe.refl, trivial⟩⟩
      repeat' (first | exact True.intro | refine And.intro ?_ ?_ | (show 0 + _ ≤ List.length _; rw [List.length_map, hlen]; omega))
  · rw [pB_f hp] at h1
    obtain ⟨e1, e2⟩ := selE_form (r := r) hp
    rw [e1, e2]
    obtain ⟨k, n, l⟩ := s
    rw [row_mk] at *
    refine acall_of tok mixed 39 rfl (fn := Tryz.f87) (c := Tryz.f87.body.getD .skip) (by kernel_rfl) (by kernel_rfl) (by kernel_rfl) rfl 0 rfl ?_
    repeat' (first | refine o1 ?_ | refine o2 ?_ | refine k1 ?_ | refine k2 ?_ | refine k3 ?_ | refine k4 ?_ | refine k7 ?_ | refine And.intro ?_ ?_ | (intro h; first | exact Bool.noConfusion h | exact nz _ h | exact nl h | (simp at h; done) | (simp at h; first | (exfalso; omega) | skip) | skip) | (change retOk _ _ _ _; refine ret_pure rfl trivial ?_) | (change vcFun _ _ _ _ _; refine call_eq rfl (by repeat' (first | trivial | refine And.intro ?_ ?_ | (show 0 + _ ≤ List.length _; simp))) ALeL.refl (h1) rfl ?_) | fail)
    all_goals first
      | exact ⟨ALe.tup ⟨ALe.pv PLe.nil, ALe.refl, trivial⟩⟩
theorem c_members (r : Reg) (s : Sel) (hr : RegS r) (hf : ∀ x ∈ r.rooms, x.feats.length ≤ 100000) (hs : SelL s) : PCall Tryz.prog 87 [ag r.cells, ag s.row] (fun a => a = .tup [.pv (.sl 1 ((memV r s).map bRow)), vint .i64 (selE r s)]) :=
  (c_members0 r s hr hf hs).weak fun r h => ⟨_, h.le, rfl⟩
-- The reference's Classes.
noncomputable def selF (r : Reg) (s : Sel) : Nat → Class → Option Int := fun i c => if hasS r c s then some (i : Int) else none
noncomputable def clsV (r : Reg) (s : Sel) (i : Nat) : List Int := upto r.classes (selF r s) i
noncomputable def clsE0 (r : Reg) (s : Sel) : Int := if regE r = 0 then selE r s else 1
noncomputable def clsL (r : Reg) (s : Sel) : List Int := if clsE0 r s = 0 then clsV r s r.classes.length else []
theorem c_rselC0 (r : Reg) (s : Sel) (hs : SelL s) (hr : regE r = 0 → RegS r ∧ ∀ x ∈ r.rooms, x.feats.length ≤ 100000) : PCall Tryz.prog 28 [ag r.cells, ag s.row] (fun a => Leq a (.tup [.pv (encInts (clsL r s)), vint .i64 (clsE0 r s)])) := by
  have h0 := c_rcheckR r
  have h1 := c_rSound s hs
  unfold clsL clsE0
  by_cases h : regE r = 0
  · obtain ⟨hr, hf⟩ := hr h
    rw [if_pos h]
    rw [h] at h0
    have hcn := hr.lens.classes
    by_cases hp : selP s
    · rw [pB_t hp] at h1
      have hb := hp.2.2
      have h2 := c_rknown r hr hf s hs hb
      unfold RKnownOk at h2
      cases hk : knownS r s
      · obtain ⟨e1, e2⟩ := selE_unk hp hk
        rw [e1, if_neg (by omega)]
        rw [hk] at h2
        obtain ⟨k, n, l⟩ := s
        rw [row_mk] at *
        refine acall_of tok mixed 34 rfl (fn := Tryz.f28) (c := Tryz.f28.body.getD .skip) (by kernel_rfl) (by kernel_rfl) (by kernel_rfl) rfl 0 rfl ?_
        repeat' (first | refine o1 ?_ | refine o2 ?_ | refine k1 ?_ | refine k2 ?_ | refine k3 ?_ | refine k6 ?_ | refine k7 ?_ | refine And.intro ?_ ?_ | (intro h; first | exact Bool.noConfusion h | exact nz _ h | exact nl h | (simp at h; done) | (simp at h; first | (exfalso; omega) | skip) | skip) | (change retOk _ _ _ _; refine ret_pure rfl trivial ?_) | (change vcFun _ _ _ _ _; refine call_eq rfl (by repeat' (first | trivial | refine And.intro ?_ ?_ | (show 0 + _ ≤ List.length _; simp))) ALeL.refl (h0) rfl ?_) | (change vcFun _ _ _ _ _; refine call_eq rfl (by repeat' (first | trivial | refine And.intro ?_ ?_ | (show 0 + _ ≤ List.length _; simp))) ALeL.refl (h1) rfl ?_) | (change vcFun _ _ _ _ _; refine call_eq rfl (by repeat' (first | trivial | refine And.intro ?_ ?_ | (show 0 + _ ≤ List.length _; simp))) ALeL.refl (h2) rfl ?_) | fail)
        all_goals exact ⟨ALe.tup ⟨ALe.pv PLe.nil, ALe.refl, trivial⟩⟩
      · obtain ⟨e1, e2⟩ := selE_ok hp hk
        rw [e1, if_pos rfl]
        rw [hk] at h2
        have h3 := fun (i : Nat) (c : Class) (hc : r.classes[i]? = some c) => c_rmeant r i c hr hc s hs hb
        have hs1 := fun (i : Nat) (c : Class) (hc : r.classes[i]? = some c) (h : hasS r c s = true) => upto_some (f := selF r s) hc (show selF r s i c = some (i : Int) from if_pos h)
        have hs2 := fun (i : Nat) (c : Class) (hc : r.classes[i]? = some c) (h : hasS r c s = false) => upto_none (f := selF r s) hc (show selF r s i c = none from if_neg (by simp [h]))
        have hul := fun i => upto_len (l := r.classes) (f := selF r s) (n := i)
        have huz : upto r.classes (selF r s) 0 = [] := rfl
        unfold clsV
        unfold RMeantOk at h3
        generalize upto r.classes (selF r s) = U at *
        generalize hHS : (fun c => hasS r c s) = HS at *
        have h3B : ∀ (i : Nat) (c : Class), r.classes[i]? = some c → PCall Tryz.prog 68 [ag r.cells, ag s.row, vint .i64 i] (fun a => a = vbool (HS c)) := fun i c hc => by rw [← hHS]; exact h3 i c hc
        have hs1B : ∀ (i : Nat) (c : Class), r.classes[i]? = some c → HS c = true → U (i + 1) = U i ++ [(i : Int)] := fun i c hc h => hs1 i c hc (by rw [← hHS] at h; exact h)
        have hs2B : ∀ (i : Nat) (c : Class), r.classes[i]? = some c → HS c = false → U (i + 1) = U i := fun i c hc h => hs2 i c hc (by rw [← hHS] at h; exact h)
        clear h3 hs1 hs2
        obtain ⟨k, n, l⟩ := s
        rw [row_mk] at *
        refine acall_of tok mixed 34 rfl (fn := Tryz.f28) (c := Tryz.f28.body.getD .skip) (by kernel_rfl) (by kernel_rfl) (by kernel_rfl) rfl 0 rfl ?_
        repeat' (first | refine o1 ?_ | refine o2 ?_ | refine k1 ?_ | refine k2 ?_ | refine k3 ?_ | refine k4 ?_ | refine k6 ?_ | refine And.intro ?_ ?_ | (intro h; first | exact Bool.noConfusion h | exact nz _ h | exact nl h | (simp at h; done) | (simp at h; first | (exfalso; omega) | skip) | skip) | (change vcFun _ _ _ _ _; refine call_eq rfl (by repeat' (first | trivial | refine And.intro ?_ ?_ | (show 0 + _ ≤ List.length _; simp))) ALeL.refl (h0) rfl ?_) | (change vcFun _ _ _ _ _; refine call_eq rfl (by repeat' (first | trivial | refine And.intro ?_ ?_ | (show 0 + _ ≤ List.length _; simp))) ALeL.refl (h1) rfl ?_) | (change vcFun _ _ _ _ _; refine call_eq rfl (by repeat' (first | trivial | refine And.intro ?_ ?_ | (show 0 + _ ≤ List.length _; simp))) ALeL.refl (h2) rfl ?_) | fail)
        refine loop_in (fun i : Nat => [(6, slP 2 1 ((U i).map fun n : Int => [ei n])), (7, vint .i64 i)]) (fun i => [some ⟨37, 14, false, .box (pvs r.cells)⟩, some ⟨55, 3, false, .box (pvs [ei k, es n, .sl 3 (l.map Sel.row)])⟩, obP 3 1 ((U i).map fun n : Int => [ei n])]) (fun i => i ≤ r.classes.length) (fun i => r.classes.length - i) 0 (Nat.zero_le _) ⟨?_, ?_⟩
        · rw [huz]
          exact back [0, 1, 2] rfl rfl (by repeat' (first | exact trivial | exact rfl | refine And.intro ?_ ?_)) (by repeat' (first | exact trivial | exact rfl | refine And.intro ?_ ?_))
        intro i hi
        have hui := hul i
        rcases Nat.lt_or_ge i r.classes.length with hlt | hge
        · obtain ⟨c, hc⟩ := getE hlt
          have hcall := h3B i c hc
          have hs1 := hs1B i c hc
          have hs2 := hs2B i c hc
          generalize HS c = B at *
          repeat' (first | (refine fv_sl ?_) | (refine fh_ob ?_) | ((refine o_app rfl rfl rfl rfl rfl rfl rfl rfl rfl rfl rfl (by rw [List.length_map]; omega) (by rw [List.length_map]; omega) ?_)) | refine o1 ?_ | refine o2 ?_ | refine k1 ?_ | refine k2 ?_ | refine k3 ?_ | refine k4 ?_ | refine k6 ?_ | refine And.intro ?_ ?_ | (intro h; first | exact Bool.noConfusion h | exact nz _ h | exact nl h | (simp at h; done) | (simp at h; first | (exfalso; omega) | skip) | skip) | refine eqv_len_map ?_ | refine eqv_wrap (by omega) (by omega) ?_ | (change vcFun _ _ _ _ _; refine call_eq rfl (by repeat' (first | trivial | refine And.intro ?_ ?_ | (show 0 + _ ≤ List.length _; simp))) ALeL.refl (hcall) rfl ?_) | fail)
          · refine ⟨i + 1, by omega, by omega, ?_⟩
            rw [hs1 (by assumption), map_snoc, sl_app, ob_app]
            exact back [0, 1, 4] rfl rfl (by repeat' (first | exact trivial | exact rfl | refine And.intro ?_ ?_)) (by repeat' (first | exact trivial | exact rfl | refine And.intro ?_ ?_))
          · refine ⟨i + 1, by omega, by omega, ?_⟩
            rw [hs2 (by assumption)]
            exact back [0, 1, 2] rfl rfl (by repeat' (first | exact trivial | exact rfl | refine kept_ob rfl ?_ | refine And.intro ?_ ?_)) (by repeat' (first | exact trivial | exact rfl | exact ren_get rfl | refine And.intro ?_ ?_))
        obtain rfl : i = r.classes.length := by omega
        repeat' (first | (refine fv_sl ?_) | (refine fh_ob ?_) | refine o1 ?_ | refine o2 ?_ | refine k1 ?_ | refine k2 ?_ | refine k3 ?_ | refine k7 ?_ | refine k8 ?_ | refine And.intro ?_ ?_ | (intro h; first | exact Bool.noConfusion h | exact nz _ h | exact nl h | (simp at h; done) | (simp at h; first | (exfalso; omega) | skip) | skip) | refine eqv_len_map ?_ | fail)
        exact ret_sl2 (id := 2) (ty := 3) rfl rfl
    · rw [pB_f hp] at h1
      obtain ⟨e1, e2⟩ := selE_form (r := r) hp
      rw [e1, if_neg (by omega)]
      obtain ⟨k, n, l⟩ := s
      rw [row_mk] at *
      refine acall_of tok mixed 34 rfl (fn := Tryz.f28) (c := Tryz.f28.body.getD .skip) (by kernel_rfl) (by kernel_rfl) (by kernel_rfl) rfl 0 rfl ?_
      repeat' (first | refine o1 ?_ | refine o2 ?_ | refine k1 ?_ | refine k2 ?_ | refine k3 ?_ | refine k6 ?_ | refine k7 ?_ | refine And.intro ?_ ?_ | (intro h; first | exact Bool.noConfusion h | exact nz _ h | exact nl h | (simp at h; done) | (simp at h; first | (exfalso; omega) | skip) | skip) | (change retOk _ _ _ _; refine ret_pure rfl trivial ?_) | (change vcFun _ _ _ _ _; refine call_eq rfl (by repeat' (first | trivial | refine And.intro ?_ ?_ | (show 0 + _ ≤ List.length _; simp))) ALeL.refl (h0) rfl ?_) | (change vcFun _ _ _ _ _; refine call_eq rfl (by repeat' (first | trivial | refine And.intro ?_ ?_ | (show 0 + _ ≤ List.length _; simp))) ALeL.refl (h1) rfl ?_) | fail)
      all_goals exact ⟨ALe.tup ⟨ALe.pv PLe.nil, ALe.refl, trivial⟩⟩
  · rw [if_neg h, if_neg (by omega)]
    generalize regE r = RE at *
    obtain ⟨k, n, l⟩ := s
    rw [row_mk] at *
    refine acall_of tok mixed 34 rfl (fn := Tryz.f28) (c := Tryz.f28.body.getD .skip) (by kernel_rfl) (by kernel_rfl) (by kernel_rfl) rfl 0 rfl ?_
    repeat' (first | refine o1 ?_ | refine o2 ?_ | refine k1 ?_ | refine k2 ?_ | refine k3 ?_ | refine k7 ?_ | refine And.intro ?_ ?_ | (intro h; first | exact Bool.noConfusion h | exact nz _ h | exact nl h | (simp at h; done) | (simp at h; first | (exfalso; omega) | skip) | skip) | (change retOk _ _ _ _; refine ret_pure rfl trivial ?_) | (change vcFun _ _ _ _ _; refine call_eq rfl (by repeat' (first | trivial | refine And.intro ?_ ?_ | (show 0 + _ ≤ List.length _; simp))) ALeL.refl (h0) rfl ?_) | fail)
    all_goals first
      | exact ⟨ALe.tup ⟨ALe.pv PLe.nil, ALe.refl, trivial⟩⟩
      | exact absurd (by assumption) h
theorem c_rselC (r : Reg) (s : Sel) (hs : SelL s) (hr : regE r = 0 → RegS r ∧ ∀ x ∈ r.rooms, x.feats.length ≤ 100000) : PCall Tryz.prog 28 [ag r.cells, ag s.row] (fun a => a = .tup [.pv (encInts (clsL r s)), vint .i64 (clsE0 r s)]) :=
  (c_rselC0 r s hs hr).weak fun r h => ⟨_, h.le, rfl⟩
end Go.Proofs.YtmaambipopgdkaaGreat.Cw

/-
  Rules for a registry: New and Check.
-/
namespace Go.Proofs.YtmaambipopgdkaaGreat.Cw
open Go.Cw Go.Proofs
set_option linter.unusedVariables false
set_option maxRecDepth 100000
set_option maxHeartbeats 8000000

/-- A judge: a registry, a rule, the classes of both selections, ways. -/
def judgeC (r : Reg) (u : Rule) (F S : List Bool) (W : Travel) : List PV := [ei r.grid.days, ei r.grid.slots, ei r.grid.begin_, ei r.grid.mins, ei r.term.first, ei r.term.weeks, encInts r.term.hols, encRooms r.rooms, encStrs r.travel.blds, .sl 1 (r.travel.slots.map intsRow), .sl 2 (r.staff.map Lecturer.row), .sl 9 (r.classes.map Class.row), .sl 2 (r.curris.map Curri.row), .sl 4 (r.reqs.map Req.row), es u.name, ei u.weight, ei u.kind, ei u.first.kind, es u.first.name, .sl 3 (u.first.kids.map Sel.row), ei u.second.kind, es u.second.name, .sl 3 (u.second.kids.map Sel.row), ei u.n, encTimes u.times, encStrs u.rooms, ei u.line, .sl 1 (F.map bRow), .sl 1 (S.map bRow), encStrs W.blds, .sl 1 (W.slots.map intsRow)]
noncomputable def unkR (r : Reg) (u : Rule) : Bool := u.rooms.any fun x => decide (idxR r.rooms x < 0)
noncomputable def newE (r : Reg) (u : Rule) : Int :=
  if ruleE u r.grid r.term.weeks ≠ 0 then ruleE u r.grid r.term.weeks else if selE r u.first ≠ 0 then selE r u.first else if u.kind = 6 ∧ selE r u.second ≠ 0 then selE r u.second else if unkR r u = true then 12 else 0
noncomputable def newS (r : Reg) (u : Rule) : List Bool := if u.kind = 6 then memB r u.second else []
noncomputable def newW (r : Reg) (u : Rule) (cl : Travel) : Travel := if u.kind = 12 then cl else ⟨[], []⟩
noncomputable def newP (r : Reg) (u : Rule) (cl : Travel) : PV := if newE r u = 0 then .ia (judgeC r u (memB r u.first) (newS r u) (newW r u cl)) else .val (.pointer none)
noncomputable def chkE (r : Reg) (u : Rule) : Int := if regE r = 0 then newE r u else 1
structure RegO (r : Reg) : Prop where
  s : RegS r
  feats : ∀ x ∈ r.rooms, x.feats.length ≤ 100000
theorem regO {r : Reg} (h : regE r = 0) : RegO r := by
  have z := orI_z (regE_z h).1
  have g3 : roomsE r.rooms r.grid r.term.weeks = 0 := z _ (by simp [partsE])
  have g5 : staffE r.staff r.grid r.term.weeks = 0 := z _ (by simp [partsE])
  have g6 : classesE r.classes r.grid r.term.weeks = 0 := z _ (by simp [partsE])
  have g7 : currisE r.curris = 0 := z _ (by simp [partsE])
  have g8 : reqsE r.reqs = 0 := z _ (by simp [partsE])
  exact ⟨regS_of g3 g5 g6 g7 g8, fun x hx => by have := room_z g3 x hx; omega⟩
theorem selE_cases (r : Reg) (s : Sel) : (selE r s = 0 ∧ memV r s = memB r s) ∨ (selE r s ≠ 0 ∧ memV r s = []) := by
  by_cases hp : selP s
  · cases hk : knownS r s
    · have := selE_unk hp hk; exact .inr ⟨by omega, this.2⟩
    · exact .inl (selE_ok hp hk)
  · have := selE_form (r := r) hp; exact .inr ⟨by omega, this.2⟩
theorem rule_len {u : Rule} {g : Grid} {w : Int} (h : ruleE u g w = 0) : u.rooms.length ≤ 16 ∧ u.times.length ≤ 24 ∧ 1 ≤ u.kind ∧ u.kind ≤ 12 ∧ 0 ≤ u.n ∧ u.n ≤ 24 ∧ 0 ≤ u.weight ∧ u.weight ≤ 1000 := by
  unfold ruleE at h
  (repeat' split at h) <;> first | omega | skip
  rename_i h1 h2 h3 h4 h5 h6 h7 h8
  have hl : listE u g w = 0 := by simpa using h7
  unfold listE at hl
  (repeat' split at hl) <;> first | omega | skip
  all_goals exact ⟨by omega, by omega, by omega, by omega, by omega, by omega, by omega, by omega⟩
theorem c_new1 (r : Reg) (x : Str) (hr : RegL r) : PCall Tryz.prog 172 [.pv (es x), .pv (.ia r.cells)] (fun a => a = vbool (decide (idxR r.rooms x < 0))) := by
  have h := c_indexR r 1 x hr
  rw [indexR1] at h
  generalize idxR r.rooms x = X at *
  refine acall_of tok mixed 8 rfl (fn := Tryz.f172) (c := Tryz.f172.body.getD .skip) (by kernel_rfl) (by kernel_rfl) (by kernel_rfl) rfl 0 rfl ?_
  repeat' (first | refine o1 ?_ | refine o2 ?_ | refine k1 ?_ | refine k2 ?_ | refine k7 ?_ | (change retOk _ _ _ _; refine ret_pure rfl trivial ?_) | (change vcFun _ _ _ _ _; refine call_eq rfl (by repeat' (first | trivial | refine And.intro ?_ ?_ | (show 0 + _ ≤ List.length _; simp))) ALeL.refl (h) rfl ?_) | fail)
  rfl
theorem PLe.ia {l m : List PV} (h : PLeL l m) : PLe (.ia l) (.ia m) := fun I w v hv => by
  obtain ⟨hl, hs⟩ := PLeL.spec h
  cases hv with
  | ia u h0 h1 h2 =>
    refine .ia u h0 (fun j hj => h1 j (by rw [← hl]; exact hj)) ?_
    intro j p hp
    obtain ⟨x, hx, hle⟩ := hs j p hp
    exact hle _ _ _ (h2 j x hx)
theorem leq_err {p : PV} {n m : Int} (e : m = n) (h : n ≠ 0) : Leq (.tup [.pv (.val (.pointer none)), vint .i64 n]) (.tup [.pv (if m = 0 then p else .val (.pointer none)), vint .i64 m]) := by
  subst e; rw [if_neg h]; exact ⟨ALe.refl⟩
theorem leq_ok {p q : PV} {m : Int} (e : m = 0) (h : PLe p q) : Leq (.tup [.pv p, vint .i64 0]) (.tup [.pv (if m = 0 then q else .val (.pointer none)), vint .i64 m]) := by
  subst e; rw [if_pos rfl]; exact ⟨ALe.tup ⟨ALe.pv h, ALe.refl, trivial⟩⟩
theorem c_new0 (r : Reg) (u : Rule) (cl : Travel) (hr : RegO r) (hu : RuleL u) (hcl : u.kind = 12 → PCall Tryz.prog 173 [ag r.travel.row] (fun a => a = .tup [ag cl.row, vint .i64 0])) :
    PCall Tryz.prog 79 [ag r.cells, ag u.row] (fun a => Leq a (.tup [.pv (newP r u cl), vint .i64 (newE r u)])) := by
  have h1 := c_ruleV u r.grid r.term.weeks hu
  have h2 := c_members r u.first hr.s hr.feats hu.first
  have h3 := c_members r u.second hr.s hr.feats hu.second
  have h4 := fun (h : u.rooms.length ≤ 100000) => c_any_str u.rooms 172 [.ia r.cells] (fun x => decide (idxR r.rooms x < 0)) h fun x _ => c_new1 r x hr.s.lens
  have hlen := @rule_len u r.grid r.term.weeks
  have s1 := selE_cases r u.first
  have s2 := selE_cases r u.second
  unfold newP newE newS newW unkR
  rw [row_cells] at h2 h3
  generalize ruleE u r.grid r.term.weeks = RE at *
  generalize selE r u.first = E1 at *
  generalize selE r u.second = E2 at *
  generalize memV r u.first = V1 at *
  generalize memV r u.second = V2 at *
  generalize memB r u.first = B1 at *
  generalize memB r u.second = B2 at *
  generalize (u.rooms.any fun x => decide (idxR r.rooms x < 0)) = UK at *
  generalize hNE : (if RE ≠ 0 then RE else if E1 ≠ 0 then E1 else if u.kind = 6 ∧ E2 ≠ 0 then E2 else if UK = true then 12 else 0) = NE
  refine acall_of tok mixed 69 rfl (fn := Tryz.f79) (c := Tryz.f79.body.getD .skip) (by kernel_rfl) (by kernel_rfl) (by kernel_rfl) rfl 0 rfl ?_
  repeat' (first | ((change vcFun _ _ _ _ _; refine call_frz rfl (by repeat' (first | trivial | refine And.intro ?_ ?_ | (show 0 + _ ≤ List.length _; simp))) ALeL.refl h2 ?_; rintro _ rfl)) | ((change vcFun _ _ _ _ _; refine call_frz rfl (by repeat' (first | trivial | refine And.intro ?_ ?_ | (show 0 + _ ≤ List.length _; simp))) ALeL.refl h3 ?_; rintro _ rfl)) | ((change vcFun _ _ _ _ _; refine call_frz rfl (by repeat' (first | trivial | refine And.intro ?_ ?_ | (show 0 + _ ≤ List.length _; simp))) ALeL.refl (hcl (by assumption)) ?_; rintro _ rfl)) | refine o1 ?_ | refine o2 ?_ | refine k1 ?_ | refine k2 ?_ | refine k3 ?_ | refine k6 ?_ | refine k7 ?_ | refine And.intro ?_ ?_ | (intro h; first | exact Bool.noConfusion h | exact nz _ h | exact nl h | (simp at h; done) | (simp at h; first | (exfalso; omega) | skip) | skip) | (change retOk _ _ _ _; refine ret_pure rfl trivial ?_) | (change vcFun _ _ _ _ _; refine call_eq rfl (by repeat' (first | trivial | refine And.intro ?_ ?_ | (show 0 + _ ≤ List.length _; simp))) ALeL.refl (h1) rfl ?_) | (change vcFun _ _ _ _ _; refine call_eq rfl (by repeat' (first | trivial | refine And.intro ?_ ?_ | (show 0 + _ ≤ List.length _; simp))) ALeL.refl (h4 (by have := hlen (by assumption); omega)) rfl ?_) | fail)
  all_goals have hNE := hNE.symm
  all_goals first
    | exact leq_err (hNE.trans (by simp [*])) (by assumption)
    | exact leq_err (hNE.trans (by simp [*])) (by decide)
    | skip
  all_goals
    change retOk _ _ _ _; refine ret_pure rfl (by repeat' (first | exact True.intro | refine And.intro ?_ ?_)) ?_
    refine leq_ok (hNE.trans (by simp [*])) ?_
    have hV1 : V1 = B1 := s1.elim (fun h => h.2) fun h => absurd (by assumption) h.1
    first
      | (have hV2 : V2 = B2 := s2.elim (fun h => h.2) fun h => absurd (by assumption) h.1
         rw [if_pos (by assumption), if_neg (by assumption), ← hV1, ← hV2])
      | (rw [if_neg (by assumption), if_pos (by assumption), ← hV1])
      | (rw [if_neg (by assumption), if_neg (by assumption), ← hV1])
    refine PLe.ia ?_
    repeat' (first | exact True.intro | refine And.intro ?_ ?_)
    all_goals first
      | exact PLe.refl
      | exact PLe.nil
theorem c_new (r : Reg) (u : Rule) (cl : Travel) (hr : RegO r) (hu : RuleL u) (hcl : u.kind = 12 → PCall Tryz.prog 173 [ag r.travel.row] (fun a => a = .tup [ag cl.row, vint .i64 0])) :
    PCall Tryz.prog 79 [ag r.cells, ag u.row] (fun a => a = .tup [.pv (newP r u cl), vint .i64 (newE r u)]) :=
  (c_new0 r u cl hr hu hcl).weak fun r h => ⟨_, h.le, rfl⟩
noncomputable def chkP (r : Reg) (u : Rule) (cl : Travel) : PV := if regE r = 0 then newP r u cl else .val (.pointer none)
theorem c_checked (r : Reg) (u : Rule) (cl : Travel) (hu : RuleL u) (hcl : regE r = 0 → u.kind = 12 → PCall Tryz.prog 173 [ag r.travel.row] (fun a => a = .tup [ag cl.row, vint .i64 0])) :
    PCall Tryz.prog 52 [ag r.cells, ag u.row] (fun a => a = .tup [.pv (chkP r u cl), vint .i64 (chkE r u)]) := by
  have h0 := c_check r
  unfold chkP chkE
  by_cases h : regE r = 0
  · have h1 := c_new r u cl (regO h) hu (hcl h)
    rw [if_pos h, if_pos h]
    rw [h] at h0
    generalize newP r u cl = NP at *
    generalize newE r u = NE at *
    refine acall_of tok mixed 14 rfl (fn := Tryz.f52) (c := Tryz.f52.body.getD .skip) (by kernel_rfl) (by kernel_rfl) (by kernel_rfl) rfl 0 rfl ?_
    repeat' (first | ((change vcFun _ _ _ _ _; refine call_frz rfl (by repeat' (first | trivial | refine And.intro ?_ ?_ | (show 0 + _ ≤ List.length _; simp))) ALeL.refl h1 ?_; rintro _ rfl)) | refine o1 ?_ | refine o2 ?_ | refine k1 ?_ | refine k2 ?_ | refine k3 ?_ | refine k6 ?_ | refine k7 ?_ | refine And.intro ?_ ?_ | (intro h; first | exact Bool.noConfusion h | exact nz _ h | exact nl h | (simp at h; done) | (simp at h; first | (exfalso; omega) | skip) | skip) | (change retOk _ _ _ _; refine ret_pure rfl trivial ?_) | (change vcFun _ _ _ _ _; refine call_eq rfl (by repeat' (first | trivial | refine And.intro ?_ ?_ | (show 0 + _ ≤ List.length _; simp))) ALeL.refl (h0) rfl ?_) | fail)
    rfl
  · rw [if_neg h, if_neg h]
    generalize regE r = RE at *
    refine acall_of tok mixed 14 rfl (fn := Tryz.f52) (c := Tryz.f52.body.getD .skip) (by kernel_rfl) (by kernel_rfl) (by kernel_rfl) rfl 0 rfl ?_
    repeat' (first | refine o1 ?_ | refine o2 ?_ | refine k1 ?_ | refine k2 ?_ | refine k3 ?_ | refine k7 ?_ | refine And.intro ?_ ?_ | (intro h; first | exact Bool.noConfusion h | exact nz _ h | exact nl h | (simp at h; done) | (simp at h; first | (exfalso; omega) | skip) | skip) | (change retOk _ _ _ _; refine ret_pure rfl trivial ?_) | (change vcFun _ _ _ _ _; refine call_eq rfl (by repeat' (first | trivial | refine And.intro ?_ ?_ | (show 0 + _ ≤ List.length _; simp))) ALeL.refl (h0) rfl ?_) | fail)
    all_goals first
      | rfl
      | exact absurd (by assumption) h
theorem c_chk (r : Reg) (u : Rule) (cl : Travel) (hu : RuleL u) (hcl : regE r = 0 → u.kind = 12 → PCall Tryz.prog 173 [ag r.travel.row] (fun a => a = .tup [ag cl.row, vint .i64 0])) :
    PCall Tryz.prog 19 [ag r.cells, ag u.row] (fun a => a = vint .i64 (chkE r u)) := by
  have h1 := c_checked r u cl hu hcl
  generalize chkP r u cl = NP at *
  generalize chkE r u = NE at *
  refine acall_of tok mixed 14 rfl (fn := Tryz.f19) (c := Tryz.f19.body.getD .skip) (by kernel_rfl) (by kernel_rfl) (by kernel_rfl) rfl 0 rfl ?_
  repeat' (first | ((change vcFun _ _ _ _ _; refine call_frz rfl (by repeat' (first | trivial | refine And.intro ?_ ?_ | (show 0 + _ ≤ List.length _; simp))) ALeL.refl h1 ?_; rintro _ rfl)) | refine o1 ?_ | refine o2 ?_ | refine k1 ?_ | refine k2 ?_ | refine k7 ?_ | (change retOk _ _ _ _; refine ret_pure rfl trivial ?_) | fail)
  rfl
theorem c_rchk (r : Reg) (u : Rule) (hu : RuleL u) : PCall Tryz.prog 20 [ag r.cells, ag u.row] (fun a => a = vint .i64 (chkE r u)) := by
  have h0 := c_rcheckR r
  have h1 := c_rruleV u r.grid r.term.weeks hu
  have h2 := c_rselC r u.first hu.first fun h => ⟨(regO h).s, (regO h).feats⟩
  have h3 := c_rselC r u.second hu.second fun h => ⟨(regO h).s, (regO h).feats⟩
  have hlen := @rule_len u r.grid r.term.weeks
  rw [row_cells] at h2 h3
  unfold clsE0 at h2 h3
  unfold chkE newE unkR
  by_cases h : regE r = 0
  · have hL := (regO h).s.lens
    have h4 := fun (x : Str) => c_rindexR r 1 x hL
    simp only [indexR1] at h4
    rw [if_pos h] at h2 h3
    rw [if_pos h]
    rw [h] at h0
    generalize ruleE u r.grid r.term.weeks = RE at *
    generalize selE r u.first = E1 at *
    generalize selE r u.second = E2 at *
    generalize clsL r u.first = L1 at *
    generalize clsL r u.second = L2 at *
    generalize hNE : (if RE ≠ 0 then RE else if E1 ≠ 0 then E1 else if u.kind = 6 ∧ E2 ≠ 0 then E2 else if (u.rooms.any fun x => decide (idxR r.rooms x < 0)) = true then 12 else 0) = NE
    refine acall_of tok mixed 62 rfl (fn := Tryz.f20) (c := Tryz.f20.body.getD .skip) (by kernel_rfl) (by kernel_rfl) (by kernel_rfl) rfl 0 rfl ?_
    repeat' (first | ((change vcFun _ _ _ _ _; refine call_frz rfl (by repeat' (first | trivial | refine And.intro ?_ ?_ | (show 0 + _ ≤ List.length _; simp))) ALeL.refl h2 ?_; rintro _ rfl)) | ((change vcFun _ _ _ _ _; refine call_frz rfl (by repeat' (first | trivial | refine And.intro ?_ ?_ | (show 0 + _ ≤ List.length _; simp))) ALeL.refl h3 ?_; rintro _ rfl)) | refine o1 ?_ | refine o2 ?_ | refine k1 ?_ | refine k2 ?_ | refine k3 ?_ | refine k4 ?_ | refine k6 ?_ | refine k7 ?_ | refine And.intro ?_ ?_ | (intro h; first | exact Bool.noConfusion h | exact nz _ h | exact nl h | (simp at h; done) | (simp at h; first | (exfalso; omega) | skip) | skip) | (change retOk _ _ _ _; refine ret_pure rfl trivial ?_) | (change vcFun _ _ _ _ _; refine call_eq rfl (by repeat' (first | trivial | refine And.intro ?_ ?_ | (show 0 + _ ≤ List.length _; simp))) ALeL.refl (h0) rfl ?_) | (change vcFun _ _ _ _ _; refine call_eq rfl (by repeat' (first | trivial | refine And.intro ?_ ?_ | (show 0 + _ ≤ List.length _; simp))) ALeL.refl (h1) rfl ?_) | fail)
    all_goals have hNE := hNE.symm
    all_goals first
      | exact congrArg (vint .i64) (Eq.symm (hNE.trans (by simp [*])))
      | skip
    all_goals
      have hNE : NE = if (u.rooms.any fun x => decide (idxR r.rooms x < 0)) = true then 12 else 0 := hNE.trans (by simp [*])
      have hr16 := (hlen (by assumption)).1
      refine loop_in (fun i : Nat => [(10, vint .i64 i)]) (fun _ => [some ⟨37, 14, false, .box (pvs r.cells)⟩, some ⟨58, 13, false, .box (pvs u.row)⟩]) (fun i => i ≤ u.rooms.length ∧ ∀ j, j < i → ∀ x, u.rooms[j]? = some x → decide (idxR r.rooms x < 0) = false) (fun i => u.rooms.length - i) 0 ⟨Nat.zero_le _, fun j hj => by omega⟩ ⟨?_, ?_⟩
      · exact back [0, 1] rfl rfl ⟨rfl, rfl, trivial⟩ (by repeat' (first | exact trivial | exact rfl | refine And.intro ?_ ?_))
      intro i ⟨hi, hall⟩
      rcases Nat.lt_or_ge i u.rooms.length with hlt | hge
      · obtain ⟨x, hx⟩ := getE hlt
        have hcall := h4 x
        have hyes : idxR r.rooms x < 0 → (u.rooms.any fun x => decide (idxR r.rooms x < 0)) = true := fun h => List.any_eq_true.2 ⟨x, List.mem_of_getElem? hx, by simpa using h⟩
        generalize hX : idxR r.rooms x = X at *
        repeat' (first | refine o1 ?_ | refine o2 ?_ | refine k1 ?_ | refine k2 ?_ | refine k3 ?_ | refine k4 ?_ | refine k6 ?_ | refine k7 ?_ | refine And.intro ?_ ?_ | refine o3 ?_ | refine o4 ?_ | (intro h; first | exact Bool.noConfusion h | exact nz _ h | exact nl h | (simp at h; done) | (simp at h; first | (exfalso; omega) | skip) | skip) | (change retOk _ _ _ _; refine ret_pure rfl trivial ?_) | exact (by kernel_rfl : drawOk _ _ = true) | refine eqv_len_map ?_ | refine eqv_wrap (by omega) (by omega) ?_ | refine ⟨_, _, (by first | rfl | assumption), at_map (by assumption), ?_⟩ | (change vcFunD _ _ _ _ _; refine callD_eq rfl (by repeat' (first | trivial | refine And.intro ?_ ?_ | (show 0 + _ ≤ List.length _; simp))) ALeL.refl (hcall) rfl ?_) | fail)
        all_goals first
          | exact congrArg (vint .i64) (by rw [hNE, if_pos (hyes (by assumption))])
          | exact ⟨i + 1, ⟨by omega, all_lt_succ hall fun y hy => by rw [hx] at hy; cases hy; rw [hX]; simp [*]⟩, by omega, back [0, 1] rfl rfl ⟨rfl, rfl, trivial⟩ (by repeat' (first | exact trivial | exact rfl | refine And.intro ?_ ?_))⟩
      · have hno : (u.rooms.any fun x => decide (idxR r.rooms x < 0)) = false := List.any_eq_false.2 fun x hm => by
          obtain ⟨j, hj⟩ := List.getElem?_of_mem hm
          have := hall j (by have := (List.getElem?_eq_some_iff.1 hj).1; omega) x hj
          rw [this]; simp
        rw [hno, if_neg (by simp)] at hNE
        repeat' (first | refine o1 ?_ | refine o2 ?_ | refine k1 ?_ | refine k2 ?_ | refine k3 ?_ | refine k7 ?_ | refine k8 ?_ | refine And.intro ?_ ?_ | (intro h; first | exact Bool.noConfusion h | exact nz _ h | exact nl h | (simp at h; done) | (simp at h; first | (exfalso; omega) | skip) | skip) | (change retOk _ _ _ _; refine ret_pure rfl trivial ?_) | refine eqv_len_map ?_ | fail)
        exact congrArg (vint .i64) hNE.symm
  · rw [if_neg h]
    generalize regE r = RE at *
    refine acall_of tok mixed 62 rfl (fn := Tryz.f20) (c := Tryz.f20.body.getD .skip) (by kernel_rfl) (by kernel_rfl) (by kernel_rfl) rfl 0 rfl ?_
    repeat' (first | refine o1 ?_ | refine o2 ?_ | refine k1 ?_ | refine k2 ?_ | refine k3 ?_ | refine k7 ?_ | refine And.intro ?_ ?_ | (intro h; first | exact Bool.noConfusion h | exact nz _ h | exact nl h | (simp at h; done) | (simp at h; first | (exfalso; omega) | skip) | skip) | (change retOk _ _ _ _; refine ret_pure rfl trivial ?_) | (change vcFun _ _ _ _ _; refine call_eq rfl (by repeat' (first | trivial | refine And.intro ?_ ?_ | (show 0 + _ ≤ List.length _; simp))) ALeL.refl (h0) rfl ?_) | fail)
    all_goals first
      | rfl
      | exact absurd (by assumption) h
end Go.Proofs.YtmaambipopgdkaaGreat.Cw

/-
  Judges: what two places violate.
-/
namespace Go.Proofs.YtmaambipopgdkaaGreat.Cw
open Go.Cw Go.Proofs
set_option linter.unusedVariables false
set_option maxRecDepth 100000
set_option maxHeartbeats 4000000

def befP (a b : Time) : Prop := soundP a ∧ soundP b ∧ (a.day < b.day ∨ (a.day = b.day ∧ a.start + a.len ≤ b.start))
theorem c_before (a b : Time) : PCall Tryz.prog 229 [ag a.row, ag b.row] (fun r => r = vbool (pB (befP a b))) := by
  refine acall_of tok mixed 35 rfl (fn := Tryz.f229) (c := Tryz.f229.body.getD .skip) (by kernel_rfl) (by kernel_rfl) (by kernel_rfl) rfl 0 rfl ?_
  repeat' (first | (refine eqv_wrap (by have h1 := sound_b (t := a) (by assumption); omega) (by have h1 := sound_b (t := a) (by assumption); omega) ?_) | refine o1 ?_ | refine o2 ?_ | refine k1 ?_ | refine k2 ?_ | refine k7 ?_ | refine And.intro ?_ ?_ | (intro h; first | exact Bool.noConfusion h | exact nz _ h | exact nl h | (simp at h; done) | (simp at h; first | (exfalso; omega) | skip) | skip) | (change retOk _ _ _ _; refine ret_pure rfl trivial ?_) | (change vcFun _ _ _ _ _; refine call_eq rfl (by repeat' (first | trivial | refine And.intro ?_ ?_ | (show 0 + _ ≤ List.length _; simp))) ALeL.refl (c_sound a) rfl ?_) | (change vcFun _ _ _ _ _; refine call_eq rfl (by repeat' (first | trivial | refine And.intro ?_ ?_ | (show 0 + _ ≤ List.length _; simp))) ALeL.refl (c_sound b) rfl ?_) | fail)
  all_goals first
    | exact congrArg vbool (pB_f fun h => absurd h.1 (by assumption)).symm
    | exact congrArg vbool (pB_f fun h => absurd h.2.1 (by assumption)).symm
    | exact congrArg vbool (pB_f fun h => by have := h.2.2; omega).symm
    | exact congrArg vbool (pB_t ⟨by assumption, by assumption, by omega⟩).symm
    | (refine congrArg vbool (pB_eq ?_); unfold befP; simp [*]; done)
theorem c_rbefore (a b : Time) : PCall Tryz.prog 233 [ag a.row, ag b.row] (fun r => r = vbool (pB (befP a b))) := by
  refine acall_of tok mixed 35 rfl (fn := Tryz.f233) (c := Tryz.f233.body.getD .skip) (by kernel_rfl) (by kernel_rfl) (by kernel_rfl) rfl 0 rfl ?_
  repeat' (first | (refine eqv_wrap (by have h1 := sound_b (t := a) (by assumption); omega) (by have h1 := sound_b (t := a) (by assumption); omega) ?_) | refine o1 ?_ | refine o2 ?_ | refine k1 ?_ | refine k2 ?_ | refine k7 ?_ | refine And.intro ?_ ?_ | (intro h; first | exact Bool.noConfusion h | exact nz _ h | exact nl h | (simp at h; done) | (simp at h; first | (exfalso; omega) | skip) | skip) | (change retOk _ _ _ _; refine ret_pure rfl trivial ?_) | (change vcFun _ _ _ _ _; refine call_eq rfl (by repeat' (first | trivial | refine And.intro ?_ ?_ | (show 0 + _ ≤ List.length _; simp))) ALeL.refl (c_rsound a) rfl ?_) | (change vcFun _ _ _ _ _; refine call_eq rfl (by repeat' (first | trivial | refine And.intro ?_ ?_ | (show 0 + _ ≤ List.length _; simp))) ALeL.refl (c_rsound b) rfl ?_) | fail)
  all_goals first
    | exact congrArg vbool (pB_f fun h => absurd h.1 (by assumption)).symm
    | exact congrArg vbool (pB_f fun h => absurd h.2.1 (by assumption)).symm
    | exact congrArg vbool (pB_f fun h => by have := h.2.2; omega).symm
    | exact congrArg vbool (pB_t ⟨by assumption, by assumption, by omega⟩).symm
    | (refine congrArg vbool (pB_eq ?_); unfold befP; simp [*]; done)
theorem c_sound2 (a b : Placed) : PCall Tryz.prog 228 [ag a.row, ag b.row] (fun r => r = vbool (pB (soundP a.time ∧ soundP b.time))) := by
  refine acall_of tok mixed 13 rfl (fn := Tryz.f228) (c := Tryz.f228.body.getD .skip) (by kernel_rfl) (by kernel_rfl) (by kernel_rfl) rfl 0 rfl ?_
  repeat' (first | refine o1 ?_ | refine o2 ?_ | refine k1 ?_ | refine k2 ?_ | refine k7 ?_ | refine And.intro ?_ ?_ | (intro h; first | exact Bool.noConfusion h | exact nz _ h | exact nl h | (simp at h; done) | (simp at h; first | (exfalso; omega) | skip) | skip) | (change retOk _ _ _ _; refine ret_pure rfl trivial ?_) | (change vcFun _ _ _ _ _; refine call_eq rfl (by repeat' (first | trivial | refine And.intro ?_ ?_ | (show 0 + _ ≤ List.length _; simp))) ALeL.refl (c_sound a.time) rfl ?_) | (change vcFun _ _ _ _ _; refine call_eq rfl (by repeat' (first | trivial | refine And.intro ?_ ?_ | (show 0 + _ ≤ List.length _; simp))) ALeL.refl (c_sound b.time) rfl ?_) | fail)
  all_goals first
    | exact congrArg vbool (pB_f fun h => absurd h.1 (by assumption)).symm
    | (refine congrArg vbool (pB_eq ?_); simp [*]; done)
def lateP (a b : Placed) : Prop := soundP a.time ∧ soundP b.time ∧ ¬ befP a.time b.time
theorem c_late (a b : Placed) : PCall Tryz.prog 147 [ag a.row, ag b.row] (fun r => r = vbool (pB (lateP a b))) := by
  refine acall_of tok mixed 16 rfl (fn := Tryz.f147) (c := Tryz.f147.body.getD .skip) (by kernel_rfl) (by kernel_rfl) (by kernel_rfl) rfl 0 rfl ?_
  repeat' (first | refine o1 ?_ | refine o2 ?_ | refine k1 ?_ | refine k2 ?_ | refine k7 ?_ | refine And.intro ?_ ?_ | (intro h; first | exact Bool.noConfusion h | exact nz _ h | exact nl h | (simp at h; done) | (simp at h; first | (exfalso; omega) | skip) | skip) | (change retOk _ _ _ _; refine ret_pure rfl trivial ?_) | (change vcFun _ _ _ _ _; refine call_eq rfl (by repeat' (first | trivial | refine And.intro ?_ ?_ | (show 0 + _ ≤ List.length _; simp))) ALeL.refl (c_sound2 a b) rfl ?_) | (change vcFun _ _ _ _ _; refine call_eq rfl (by repeat' (first | trivial | refine And.intro ?_ ?_ | (show 0 + _ ≤ List.length _; simp))) ALeL.refl (c_before a.time b.time) rfl ?_) | fail)
  all_goals first
    | exact congrArg vbool (pB_f fun h => absurd ⟨h.1, h.2.1⟩ (by assumption)).symm
    | (refine congrArg vbool (pB_eq ?_); unfold lateP; simp_all; done)
theorem c_oneB (b : Bool) : PCall Tryz.prog 142 [vbool b] (fun r => r = vint .i64 (if b then 1 else 0)) := by
  refine acall_of tok mixed 4 rfl (fn := Tryz.f142) (c := Tryz.f142.body.getD .skip) (by kernel_rfl) (by kernel_rfl) (by kernel_rfl) rfl 0 rfl ?_
  cases b
  all_goals
    repeat' (first | refine o1 ?_ | refine o2 ?_ | refine k1 ?_ | refine k2 ?_ | refine k3 ?_ | refine k6 ?_ | refine k7 ?_ | refine And.intro ?_ ?_ | (intro h; first | exact Bool.noConfusion h | exact nz _ h | exact nl h | (simp at h; done) | (simp at h; first | (exfalso; omega) | skip) | skip) | (change retOk _ _ _ _; refine ret_pure rfl trivial ?_) | fail)
    rfl
theorem c_roneB (b : Bool) : PCall Tryz.prog 232 [vbool b] (fun r => r = vint .i64 (if b then 1 else 0)) := by
  refine acall_of tok mixed 4 rfl (fn := Tryz.f232) (c := Tryz.f232.body.getD .skip) (by kernel_rfl) (by kernel_rfl) (by kernel_rfl) rfl 0 rfl ?_
  cases b
  all_goals
    repeat' (first | refine o1 ?_ | refine o2 ?_ | refine k1 ?_ | refine k2 ?_ | refine k3 ?_ | refine k6 ?_ | refine k7 ?_ | refine And.intro ?_ ?_ | (intro h; first | exact Bool.noConfusion h | exact nz _ h | exact nl h | (simp at h; done) | (simp at h; first | (exfalso; omega) | skip) | skip) | (change retOk _ _ _ _; refine ret_pure rfl trivial ?_) | fail)
    rfl
def roomIn (r : Reg) (a : Placed) : Prop := 0 ≤ a.room ∧ a.room < (r.rooms.length : Int)
theorem c_roomed (r : Reg) (u : Rule) (F S : List Bool) (W : Travel) (a : Placed) : PCall Tryz.prog 146 [.pv (.ia (judgeC r u F S W)), ag a.row] (fun v => v = vbool (pB (roomIn r a))) := by
  refine acall_of tok mixed 19 rfl (fn := Tryz.f146) (c := Tryz.f146.body.getD .skip) (by kernel_rfl) (by kernel_rfl) (by kernel_rfl) rfl 0 rfl ?_
  repeat' (first | refine o1 ?_ | refine o2 ?_ | refine k1 ?_ | refine k2 ?_ | refine k7 ?_ | refine And.intro ?_ ?_ | refine o3 ?_ | refine o4 ?_ | (intro h; first | exact Bool.noConfusion h | exact nz _ h | exact nl h | (simp at h; done) | (simp at h; first | (exfalso; omega) | skip) | skip) | (change retOk _ _ _ _; refine ret_pure rfl trivial ?_) | exact (by kernel_rfl : drawOk _ _ = true) | refine eqv_len_map ?_ | fail)
  all_goals first
    | exact congrArg vbool (pB_f fun h => by have := h.1; omega).symm
    | (refine congrArg vbool (pB_eq ?_); unfold roomIn; simp [*]; done)
theorem c_rroomed (r : Reg) (a : Placed) : PCall Tryz.prog 151 [ag r.cells, ag a.row] (fun v => v = vbool (pB (roomIn r a))) := by
  refine acall_of tok mixed 16 rfl (fn := Tryz.f151) (c := Tryz.f151.body.getD .skip) (by kernel_rfl) (by kernel_rfl) (by kernel_rfl) rfl 0 rfl ?_
  repeat' (first | refine o1 ?_ | refine o2 ?_ | refine k1 ?_ | refine k2 ?_ | refine k7 ?_ | refine And.intro ?_ ?_ | (intro h; first | exact Bool.noConfusion h | exact nz _ h | exact nl h | (simp at h; done) | (simp at h; first | (exfalso; omega) | skip) | skip) | (change retOk _ _ _ _; refine ret_pure rfl trivial ?_) | refine eqv_len_map ?_ | fail)
  all_goals first
    | exact congrArg vbool (pB_f fun h => by have := h.1; omega).symm
    | (refine congrArg vbool (pB_eq ?_); unfold roomIn; simp [*]; done)
theorem c_rlate (a b : Placed) : PCall Tryz.prog 152 [ag a.row, ag b.row] (fun r => r = vint .i64 (if pB (lateP a b) then 1 else 0)) := by
  refine acall_of tok mixed 22 rfl (fn := Tryz.f152) (c := Tryz.f152.body.getD .skip) (by kernel_rfl) (by kernel_rfl) (by kernel_rfl) rfl 0 rfl ?_
  repeat' (first | refine o1 ?_ | refine o2 ?_ | refine k1 ?_ | refine k2 ?_ | refine k7 ?_ | refine And.intro ?_ ?_ | (intro h; first | exact Bool.noConfusion h | exact nz _ h | exact nl h | (simp at h; done) | (simp at h; first | (exfalso; omega) | skip) | skip) | (change retOk _ _ _ _; refine ret_pure rfl trivial ?_) | (change vcFun _ _ _ _ _; refine call_eq rfl (by repeat' (first | trivial | refine And.intro ?_ ?_ | (show 0 + _ ≤ List.length _; simp))) ALeL.refl (c_rsound a.time) rfl ?_) | (change vcFun _ _ _ _ _; refine call_eq rfl (by repeat' (first | trivial | refine And.intro ?_ ?_ | (show 0 + _ ≤ List.length _; simp))) ALeL.refl (c_rsound b.time) rfl ?_) | (change vcFun _ _ _ _ _; refine call_eq rfl (by repeat' (first | trivial | refine And.intro ?_ ?_ | (show 0 + _ ≤ List.length _; simp))) ALeL.refl (c_rbefore a.time b.time) rfl ?_) | (change vcFun _ _ _ _ _; refine call_eq rfl (by repeat' (first | trivial | refine And.intro ?_ ?_ | (show 0 + _ ≤ List.length _; simp))) ALeL.refl (c_roneB _) rfl ?_) | fail)
  all_goals
    refine congrArg (vint .i64) (congrArg (fun b : Bool => if b = true then (1 : Int) else 0) ?_)
    first
      | exact (pB_f fun h => absurd h.1 (by assumption)).symm
      | exact (pB_f fun h => absurd h.2.1 (by assumption)).symm
      | (refine pB_eq ?_; unfold lateP; simp_all; done)
/-- How many slots a way takes. -/
noncomputable def slotAt (W : Travel) (i k : Int) : Option Int := if 0 ≤ i ∧ 0 ≤ k then (W.slots[i.toNat]?).bind fun l => l[k.toNat]? else none
open Classical in
noncomputable def betV (W : Travel) (a b : Str) : Int := if a = b then 0 else match slotAt W (idxS W.blds a) (idxS W.blds b) with
  | some x => if x = -1 then 0 else x
  | none => 0
theorem bet_eq {W : Travel} {a b : Str} (h : sEq a b = true) : betV W a b = 0 := if_pos (sEq_iff.1 h)
theorem bet_no {W : Travel} {a b : Str} (h : slotAt W (idxS W.blds a) (idxS W.blds b) = none) : betV W a b = 0 := by
  unfold betV; rw [h]; split <;> rfl
theorem bet_neg {W : Travel} {a b : Str} (h : slotAt W (idxS W.blds a) (idxS W.blds b) = some (-1)) : betV W a b = 0 := by
  unfold betV; rw [h]; split <;> simp
theorem bet_at {W : Travel} {a b : Str} {v : Int} (h0 : sEq a b = false) (h : slotAt W (idxS W.blds a) (idxS W.blds b) = some v) (hv : ¬ v = -1) : betV W a b = v := by
  unfold betV; rw [h, if_neg (sEq_f.1 h0)]; simp [hv]
theorem slotAt_row {W : Travel} {i k : Int} (h : ¬ (0 ≤ i ∧ i < (W.slots.length : Int))) : slotAt W i k = none := by
  unfold slotAt
  split
  · rw [List.getElem?_eq_none (by omega)]; rfl
  · rfl
theorem slotAt_col {W : Travel} {i : Nat} {k : Int} {x : List Int} (hx : W.slots[i]? = some x) (h : ¬ (0 ≤ k ∧ k < (x.length : Int))) : slotAt W i k = none := by
  unfold slotAt
  split
  · rw [Int.toNat_natCast, hx]
    show x[k.toNat]? = none
    exact List.getElem?_eq_none (by omega)
  · rfl
theorem slotAt_at {W : Travel} {i k : Nat} {x : List Int} {v : Int} (hx : W.slots[i]? = some x) (hv : x[k]? = some v) : slotAt W i k = some v := by
  unfold slotAt
  rw [if_pos (by omega), Int.toNat_natCast, hx, Int.toNat_natCast]
  exact hv
theorem c_tbet (W : Travel) (a b : Str) (hl : W.blds.length ≤ 100000) (hs : W.slots.length ≤ 100000) (hr : ∀ x ∈ W.slots, x.length ≤ 100000) : PCall Tryz.prog 282 [ag W.row, .pv (es a), .pv (es b)] (fun r => r = vint .i64 (betV W a b)) := by
  have h1 := c_index W.blds a hl
  have h2 := c_index W.blds b hl
  have c1 := @bet_eq W a b
  have c2 := @bet_no W a b
  have c3 := @bet_neg W a b
  have c4 := @bet_at W a b
  generalize betV W a b = BV at *
  generalize idxS W.blds a = I at *
  generalize idxS W.blds b = K at *
  by_cases hI : 0 ≤ I ∧ I < (W.slots.length : Int)
  · obtain ⟨i, rfl⟩ : ∃ i : Nat, I = i := ⟨I.toNat, by omega⟩
    obtain ⟨x, hx⟩ := getE (l := W.slots) (i := i) (by omega)
    have hxl := hr x (List.mem_of_getElem? hx)
    by_cases hK : 0 ≤ K ∧ K < (x.length : Int)
    · obtain ⟨k, rfl⟩ : ∃ k : Nat, K = k := ⟨K.toNat, by omega⟩
      obtain ⟨v, hv⟩ := getE (l := x) (i := k) (by omega)
      have hat := slotAt_at hx hv
      rw [hat] at c3 c4
      refine acall_of tok mixed 64 rfl (fn := Tryz.f282) (c := Tryz.f282.body.getD .skip) (by kernel_rfl) (by kernel_rfl) (by kernel_rfl) rfl 0 rfl ?_
      repeat' (first | refine o1 ?_ | refine o2 ?_ | refine k1 ?_ | refine k2 ?_ | refine k3 ?_ | refine k6 ?_ | refine k7 ?_ | refine And.intro ?_ ?_ | refine o3 ?_ | refine o4 ?_ | (intro h; first | exact Bool.noConfusion h | exact nz _ h | exact nl h | (simp at h; done) | (simp at h; first | (exfalso; omega) | skip) | skip) | (change retOk _ _ _ _; refine ret_pure rfl trivial ?_) | exact (by kernel_rfl : drawOk _ _ = true) | refine eqv_len_map ?_ | refine ⟨_, _, (by first | rfl | assumption), at_map (by assumption), ?_⟩ | (change vcFunD _ _ _ _ _; refine callD_eq rfl (by repeat' (first | trivial | refine And.intro ?_ ?_ | (show 0 + _ ≤ List.length _; simp))) ALeL.refl (h1) rfl ?_) | (change vcFunD _ _ _ _ _; refine callD_eq rfl (by repeat' (first | trivial | refine And.intro ?_ ?_ | (show 0 + _ ≤ List.length _; simp))) ALeL.refl (h2) rfl ?_) | fail)
      all_goals first
        | exact congrArg (vint .i64) (c1 (by assumption)).symm
        | exact congrArg (vint .i64) (c4 (by assumption) rfl (by assumption)).symm
        | exact congrArg (vint .i64) (c3 (congrArg some (by assumption))).symm
        | (exfalso; omega)
    · have hno := c2 (slotAt_col hx hK)
      rw [hno]
      refine acall_of tok mixed 64 rfl (fn := Tryz.f282) (c := Tryz.f282.body.getD .skip) (by kernel_rfl) (by kernel_rfl) (by kernel_rfl) rfl 0 rfl ?_
      repeat' (first | refine o1 ?_ | refine o2 ?_ | refine k1 ?_ | refine k2 ?_ | refine k3 ?_ | refine k7 ?_ | refine And.intro ?_ ?_ | refine o3 ?_ | refine o4 ?_ | (intro h; first | exact Bool.noConfusion h | exact nz _ h | exact nl h | (simp at h; done) | (simp at h; first | (exfalso; omega) | skip) | skip) | (change retOk _ _ _ _; refine ret_pure rfl trivial ?_) | exact (by kernel_rfl : drawOk _ _ = true) | refine eqv_len_map ?_ | refine ⟨_, _, (by first | rfl | assumption), at_map (by assumption), ?_⟩ | (change vcFunD _ _ _ _ _; refine callD_eq rfl (by repeat' (first | trivial | refine And.intro ?_ ?_ | (show 0 + _ ≤ List.length _; simp))) ALeL.refl (h1) rfl ?_) | (change vcFunD _ _ _ _ _; refine callD_eq rfl (by repeat' (first | trivial | refine And.intro ?_ ?_ | (show 0 + _ ≤ List.length _; simp))) ALeL.refl (h2) rfl ?_) | fail)
      all_goals first
        | rfl
        | (exfalso; omega)
  · have hno := c2 (slotAt_row hI)
    rw [hno]
    refine acall_of tok mixed 64 rfl (fn := Tryz.f282) (c := Tryz.f282.body.getD .skip) (by kernel_rfl) (by kernel_rfl) (by kernel_rfl) rfl 0 rfl ?_
    repeat' (first | refine o1 ?_ | refine o2 ?_ | refine k1 ?_ | refine k2 ?_ | refine k3 ?_ | refine k7 ?_ | refine And.intro ?_ ?_ | refine o3 ?_ | refine o4 ?_ | (intro h; first | exact Bool.noConfusion h | exact nz _ h | exact nl h | (simp at h; done) | (simp at h; first | (exfalso; omega) | skip) | skip) | (change retOk _ _ _ _; refine ret_pure rfl trivial ?_) | exact (by kernel_rfl : drawOk _ _ = true) | refine eqv_len_map ?_ | (change vcFunD _ _ _ _ _; refine callD_eq rfl (by repeat' (first | trivial | refine And.intro ?_ ?_ | (show 0 + _ ≤ List.length _; simp))) ALeL.refl (h1) rfl ?_) | (change vcFunD _ _ _ _ _; refine callD_eq rfl (by repeat' (first | trivial | refine And.intro ?_ ?_ | (show 0 + _ ≤ List.length _; simp))) ALeL.refl (h2) rfl ?_) | fail)
    all_goals first
      | rfl
      | (exfalso; omega)
theorem c_rtbet (W : Travel) (a b : Str) (hl : W.blds.length ≤ 100000) (hs : W.slots.length ≤ 100000) (hr : ∀ x ∈ W.slots, x.length ≤ 100000) : PCall Tryz.prog 234 [ag W.row, .pv (es a), .pv (es b)] (fun r => r = vint .i64 (betV W a b)) := by
  have h1 := c_place W.blds a hl
  have h2 := c_place W.blds b hl
  have c1 := @bet_eq W a b
  have c2 := @bet_no W a b
  have c3 := @bet_neg W a b
  have c4 := @bet_at W a b
  generalize betV W a b = BV at *
  generalize idxS W.blds a = I at *
  generalize idxS W.blds b = K at *
  by_cases hI : 0 ≤ I ∧ I < (W.slots.length : Int)
  · obtain ⟨i, rfl⟩ : ∃ i : Nat, I = i := ⟨I.toNat, by omega⟩
    obtain ⟨x, hx⟩ := getE (l := W.slots) (i := i) (by omega)
    have hxl := hr x (List.mem_of_getElem? hx)
    by_cases hK : 0 ≤ K ∧ K < (x.length : Int)
    · obtain ⟨k, rfl⟩ : ∃ k : Nat, K = k := ⟨K.toNat, by omega⟩
      obtain ⟨v, hv⟩ := getE (l := x) (i := k) (by omega)
      have hat := slotAt_at hx hv
      rw [hat] at c3 c4
      refine acall_of tok mixed 62 rfl (fn := Tryz.f234) (c := Tryz.f234.body.getD .skip) (by kernel_rfl) (by kernel_rfl) (by kernel_rfl) rfl 0 rfl ?_
      repeat' (first | refine o1 ?_ | refine o2 ?_ | refine k1 ?_ | refine k2 ?_ | refine k3 ?_ | refine k6 ?_ | refine k7 ?_ | refine And.intro ?_ ?_ | refine o3 ?_ | refine o4 ?_ | (intro h; first | exact Bool.noConfusion h | exact nz _ h | exact nl h | (simp at h; done) | (simp at h; first | (exfalso; omega) | skip) | skip) | (change retOk _ _ _ _; refine ret_pure rfl trivial ?_) | exact (by kernel_rfl : drawOk _ _ = true) | refine eqv_len_map ?_ | refine ⟨_, _, (by first | rfl | assumption), at_map (by assumption), ?_⟩ | (change vcFunD _ _ _ _ _; refine callD_eq rfl (by repeat' (first | trivial | refine And.intro ?_ ?_ | (show 0 + _ ≤ List.length _; simp))) ALeL.refl (h1) rfl ?_) | (change vcFunD _ _ _ _ _; refine callD_eq rfl (by repeat' (first | trivial | refine And.intro ?_ ?_ | (show 0 + _ ≤ List.length _; simp))) ALeL.refl (h2) rfl ?_) | fail)
      all_goals first
        | exact congrArg (vint .i64) (c1 (by assumption)).symm
        | exact congrArg (vint .i64) (c4 (by assumption) rfl (by assumption)).symm
        | exact congrArg (vint .i64) (c3 (congrArg some (by assumption))).symm
        | (exfalso; omega)
    · have hno := c2 (slotAt_col hx hK)
      rw [hno]
      refine acall_of tok mixed 62 rfl (fn := Tryz.f234) (c := Tryz.f234.body.getD .skip) (by kernel_rfl) (by kernel_rfl) (by kernel_rfl) rfl 0 rfl ?_
      repeat' (first | refine o1 ?_ | refine o2 ?_ | refine k1 ?_ | refine k2 ?_ | refine k3 ?_ | refine k7 ?_ | refine And.intro ?_ ?_ | refine o3 ?_ | refine o4 ?_ | (intro h; first | exact Bool.noConfusion h | exact nz _ h | exact nl h | (simp at h; done) | (simp at h; first | (exfalso; omega) | skip) | skip) | (change retOk _ _ _ _; refine ret_pure rfl trivial ?_) | exact (by kernel_rfl : drawOk _ _ = true) | refine eqv_len_map ?_ | refine ⟨_, _, (by first | rfl | assumption), at_map (by assumption), ?_⟩ | (change vcFunD _ _ _ _ _; refine callD_eq rfl (by repeat' (first | trivial | refine And.intro ?_ ?_ | (show 0 + _ ≤ List.length _; simp))) ALeL.refl (h1) rfl ?_) | (change vcFunD _ _ _ _ _; refine callD_eq rfl (by repeat' (first | trivial | refine And.intro ?_ ?_ | (show 0 + _ ≤ List.length _; simp))) ALeL.refl (h2) rfl ?_) | fail)
      all_goals first
        | rfl
        | (exfalso; omega)
  · have hno := c2 (slotAt_row hI)
    rw [hno]
    refine acall_of tok mixed 62 rfl (fn := Tryz.f234) (c := Tryz.f234.body.getD .skip) (by kernel_rfl) (by kernel_rfl) (by kernel_rfl) rfl 0 rfl ?_
    repeat' (first | refine o1 ?_ | refine o2 ?_ | refine k1 ?_ | refine k2 ?_ | refine k3 ?_ | refine k7 ?_ | refine And.intro ?_ ?_ | refine o3 ?_ | refine o4 ?_ | (intro h; first | exact Bool.noConfusion h | exact nz _ h | exact nl h | (simp at h; done) | (simp at h; first | (exfalso; omega) | skip) | skip) | (change retOk _ _ _ _; refine ret_pure rfl trivial ?_) | exact (by kernel_rfl : drawOk _ _ = true) | refine eqv_len_map ?_ | (change vcFunD _ _ _ _ _; refine callD_eq rfl (by repeat' (first | trivial | refine And.intro ?_ ?_ | (show 0 + _ ≤ List.length _; simp))) ALeL.refl (h1) rfl ?_) | (change vcFunD _ _ _ _ _; refine callD_eq rfl (by repeat' (first | trivial | refine And.intro ?_ ?_ | (show 0 + _ ≤ List.length _; simp))) ALeL.refl (h2) rfl ?_) | fail)
    all_goals first
      | rfl
      | (exfalso; omega)
def bldOf (r : Reg) (a : Placed) : Str := match r.rooms[a.room.toNat]? with
  | some x => x.bld
  | none => ⟨#[]⟩
def codeOf (r : Reg) (a : Placed) : Str := match r.rooms[a.room.toNat]? with
  | some x => x.code
  | none => ⟨#[]⟩
def farP (r : Reg) (W : Travel) (a b : Placed) (n : Int) : Prop := roomIn r a ∧ roomIn r b ∧ n < betV W (bldOf r a) (bldOf r b)
structure WayL (W : Travel) : Prop where
  blds : W.blds.length ≤ 100000
  slots : W.slots.length ≤ 100000
  rows : ∀ x ∈ W.slots, x.length ≤ 100000
theorem room_at {r : Reg} {a : Placed} (h : roomIn r a) : ∃ (i : Nat) (x : Room), a.room = (i : Int) ∧ r.rooms[i]? = some x ∧ bldOf r a = x.bld ∧ codeOf r a = x.code := by
  obtain ⟨h1, h2⟩ := h
  obtain ⟨x, hx⟩ := getE (l := r.rooms) (i := a.room.toNat) (by omega)
  exact ⟨a.room.toNat, x, by omega, hx, by unfold bldOf; rw [hx], by unfold codeOf; rw [hx]⟩
/-- What two classes of the first selection violate. -/
def pairP2 (r : Reg) (u : Rule) (W : Travel) (a b : Placed) : Prop :=
  (u.kind = 1 ∧ meetP a.time b.time ∧ btw a.time b.time < 0) ∨ (u.kind = 2 ∧ (soundP a.time ∧ soundP b.time) ∧ bits .and .i64 a.time.weeks b.time.weeks ≠ 0 ∧ a.time.day ≠ b.time.day) ∨ (u.kind = 3 ∧ meetP a.time b.time) ∨
  (u.kind = 4 ∧ roomIn r a ∧ roomIn r b ∧ a.room ≠ b.room) ∨ (u.kind = 5 ∧ (soundP a.time ∧ soundP b.time) ∧ (a.time.day ≠ b.time.day ∨ a.time.start ≠ b.time.start)) ∨ (u.kind = 8 ∧ meetP a.time b.time ∧ btw a.time b.time < u.n) ∨
  (u.kind = 9 ∧ meetP a.time b.time ∧ max (a.time.start + a.time.len) (b.time.start + b.time.len) - min a.time.start b.time.start > u.n) ∨ (u.kind = 12 ∧ meetP a.time b.time ∧ 0 ≤ btw a.time b.time ∧ farP r W a b (btw a.time b.time))
theorem c_far (r : Reg) (u : Rule) (F S : List Bool) (W : Travel) (a b : Placed) (n : Int) (hW : WayL W) :
    PCall Tryz.prog 230 [.pv (.ia (judgeC r u F S W)), ag a.row, ag b.row, vint .i64 n] (fun v => v = vbool (pB (farP r W a b n))) := by
  have h1 := c_roomed r u F S W a
  have h2 := c_roomed r u F S W b
  by_cases ha : roomIn r a
  · by_cases hb : roomIn r b
    · obtain ⟨i, x, e1, hx, e2, -⟩ := room_at ha
      obtain ⟨k, y, e3, hy, e4, -⟩ := room_at hb
      have hbt := c_tbet W x.bld y.bld hW.blds hW.slots hW.rows
      have hP : pB (farP r W a b n) = decide (n < betV W x.bld y.bld) := by
        unfold farP; rw [e2, e4]
        exact (pB_eq (by simp [ha, hb])).symm
      rw [hP]
      rw [pB_t ha] at h1
      rw [pB_t hb] at h2
      generalize betV W x.bld y.bld = BV at *
      obtain ⟨ta, ar⟩ := a
      obtain ⟨tb, br⟩ := b
      dsimp only at e1 e3
      subst e1 e3
      refine acall_of tok mixed 46 rfl (fn := Tryz.f230) (c := Tryz.f230.body.getD .skip) (by kernel_rfl) (by kernel_rfl) (by kernel_rfl) rfl 0 rfl ?_
      repeat' (first | refine o1 ?_ | refine o2 ?_ | refine k1 ?_ | refine k2 ?_ | refine k7 ?_ | refine And.intro ?_ ?_ | refine o3 ?_ | refine o4 ?_ | (intro h; first | exact Bool.noConfusion h | exact nz _ h | exact nl h | (simp at h; done) | (simp at h; first | (exfalso; omega) | skip) | skip) | (change retOk _ _ _ _; refine ret_pure rfl trivial ?_) | exact (by kernel_rfl : drawOk _ _ = true) | refine ⟨_, _, (by first | rfl | assumption), at_map (by assumption), ?_⟩ | (change vcFunD _ _ _ _ _; refine callD_eq rfl (by repeat' (first | trivial | refine And.intro ?_ ?_ | (show 0 + _ ≤ List.length _; simp))) ALeL.refl (h1) rfl ?_) | (change vcFunD _ _ _ _ _; refine callD_eq rfl (by repeat' (first | trivial | refine And.intro ?_ ?_ | (show 0 + _ ≤ List.length _; simp))) ALeL.refl (h2) rfl ?_) | (change vcFunD _ _ _ _ _; refine callD_eq rfl (by repeat' (first | trivial | refine And.intro ?_ ?_ | (show 0 + _ ≤ List.length _; simp))) ALeL.refl (hbt) rfl ?_) | fail)
      rfl
    · rw [pB_f (fun h => hb h.2.1)]
      rw [pB_f hb] at h2
      refine acall_of tok mixed 46 rfl (fn := Tryz.f230) (c := Tryz.f230.body.getD .skip) (by kernel_rfl) (by kernel_rfl) (by kernel_rfl) rfl 0 rfl ?_
      repeat' (first | refine o1 ?_ | refine o2 ?_ | refine k1 ?_ | refine k2 ?_ | refine k7 ?_ | refine And.intro ?_ ?_ | refine o3 ?_ | refine o4 ?_ | (intro h; first | exact Bool.noConfusion h | exact nz _ h | exact nl h | (simp at h; done) | (simp at h; first | (exfalso; omega) | skip) | skip) | (change retOk _ _ _ _; refine ret_pure rfl trivial ?_) | exact (by kernel_rfl : drawOk _ _ = true) | (change vcFunD _ _ _ _ _; refine callD_eq rfl (by repeat' (first | trivial | refine And.intro ?_ ?_ | (show 0 + _ ≤ List.length _; simp))) ALeL.refl (h1) rfl ?_) | (change vcFunD _ _ _ _ _; refine callD_eq rfl (by repeat' (first | trivial | refine And.intro ?_ ?_ | (show 0 + _ ≤ List.length _; simp))) ALeL.refl (h2) rfl ?_) | fail)
      all_goals rfl
  · rw [pB_f (fun h => ha h.1)]
    rw [pB_f ha] at h1
    refine acall_of tok mixed 46 rfl (fn := Tryz.f230) (c := Tryz.f230.body.getD .skip) (by kernel_rfl) (by kernel_rfl) (by kernel_rfl) rfl 0 rfl ?_
    repeat' (first | refine o1 ?_ | refine o2 ?_ | refine k1 ?_ | refine k2 ?_ | refine k7 ?_ | refine And.intro ?_ ?_ | refine o3 ?_ | refine o4 ?_ | (intro h; first | exact Bool.noConfusion h | exact nz _ h | exact nl h | (simp at h; done) | (simp at h; first | (exfalso; omega) | skip) | skip) | (change retOk _ _ _ _; refine ret_pure rfl trivial ?_) | exact (by kernel_rfl : drawOk _ _ = true) | (change vcFunD _ _ _ _ _; refine callD_eq rfl (by repeat' (first | trivial | refine And.intro ?_ ?_ | (show 0 + _ ≤ List.length _; simp))) ALeL.refl (h1) rfl ?_) | fail)
    all_goals rfl
theorem c_pairJ (r : Reg) (u : Rule) (F S : List Bool) (W : Travel) (a b : Placed) (hW : WayL W) :
    PCall Tryz.prog 148 [.pv (.ia (judgeC r u F S W)), ag a.row, ag b.row] (fun v => v = vbool (pB (pairP2 r u W a b))) := by
  have h1 := c_between a.time b.time
  have h2 := c_sound2 a b
  have h3 := c_roomed r u F S W a
  have h4 := c_roomed r u F S W b
  have h5 := c_far r u F S W a b (btw a.time b.time) hW
  unfold pairP2
  refine acall_of tok mixed 158 rfl (fn := Tryz.f148) (c := Tryz.f148.body.getD .skip) (by kernel_rfl) (by kernel_rfl) (by kernel_rfl) rfl 0 rfl ?_
  repeat' (first | (refine (eqv_rfl ?_ : eqv (bits _ _ _ _) _)) | refine o1 ?_ | refine o2 ?_ | refine k1 ?_ | refine k2 ?_ | refine k3 ?_ | refine k4 ?_ | refine k6 ?_ | refine k7 ?_ | refine And.intro ?_ ?_ | refine o3 ?_ | refine o4 ?_ | (intro h; first | exact Bool.noConfusion h | exact nz _ h | exact nl h | (simp at h; done) | (simp at h; first | (exfalso; omega) | skip) | skip) | (change retOk _ _ _ _; refine ret_pure rfl trivial ?_) | exact (by kernel_rfl : drawOk _ _ = true) | (change vcFun _ _ _ _ _; refine call_eq rfl (by repeat' (first | trivial | refine And.intro ?_ ?_ | (show 0 + _ ≤ List.length _; simp))) ALeL.refl (h1) rfl ?_) | (change vcFun _ _ _ _ _; refine call_eq rfl (by repeat' (first | trivial | refine And.intro ?_ ?_ | (show 0 + _ ≤ List.length _; simp))) ALeL.refl (h2) rfl ?_) | (change vcFun _ _ _ _ _; refine call_eq rfl (by repeat' (first | trivial | refine And.intro ?_ ?_ | (show 0 + _ ≤ List.length _; simp))) ALeL.refl (h3) rfl ?_) | (change vcFun _ _ _ _ _; refine call_eq rfl (by repeat' (first | trivial | refine And.intro ?_ ?_ | (show 0 + _ ≤ List.length _; simp))) ALeL.refl (h4) rfl ?_) | (change vcFun _ _ _ _ _; refine call_eq rfl (by repeat' (first | trivial | refine And.intro ?_ ?_ | (show 0 + _ ≤ List.length _; simp))) ALeL.refl (h5) rfl ?_) | (refine eqv_rfl ?_) | fail)
  all_goals clear h1 h2 h3 h4 h5
  all_goals first
    | (refine congrArg vbool (pB_eq ?_); simp [*]; done)
    | (refine congrArg vbool (pB_f fun hx => ?_).symm
       rcases hx with ⟨e, hx⟩ | ⟨e, hx⟩ | ⟨e, hx⟩ | ⟨e, hx⟩ | ⟨e, hx⟩ | ⟨e, hx⟩ | ⟨e, hx⟩ | ⟨e, hx⟩
       all_goals first
         | (exfalso; omega)
         | exact absurd hx.1.2 ((by assumption : soundP a.time → ¬ soundP b.time) hx.1.1))
    | (have hm : meetP a.time b.time := by assumption
       have hk : u.kind = 9 := by assumption
       have g1 := sound_b hm.1
       have g2 := sound_b hm.2.1
       have w1 : IntKind.i64.wrap (b.time.start + b.time.len) = b.time.start + b.time.len := wrap64 (by omega) (by omega)
       have w2 : IntKind.i64.wrap (a.time.start + a.time.len) = a.time.start + a.time.len := wrap64 (by omega) (by omega)
       refine congrArg vbool (pB_eq ?_)
       simp only [cond_true, cond_false, w1, w2]
       rw [wrap64 (by (repeat' split) <;> omega) (by (repeat' split) <;> omega)]
       simp only [decide_eq_true_eq]
       constructor
       · intro h
         exact .inr (.inr (.inr (.inr (.inr (.inr (.inl ⟨hk, hm, by (repeat' split at h) <;> omega⟩))))))
       · intro hx
         rcases hx with ⟨e, hx⟩ | ⟨e, hx⟩ | ⟨e, hx⟩ | ⟨e, hx⟩ | ⟨e, hx⟩ | ⟨e, hx⟩ | ⟨e, hx⟩ | ⟨e, hx⟩
         all_goals first
           | (exfalso; omega)
           | (have hx := hx.2; (repeat' split) <;> omega))
end Go.Proofs.YtmaambipopgdkaaGreat.Cw

/-
  A place in a week and on a day.
-/
namespace Go.Proofs.YtmaambipopgdkaaGreat.Cw
open Go Go.Cw Go.Proofs
set_option linter.unusedVariables false
set_option maxRecDepth 100000
set_option maxHeartbeats 8000000
def onP (a : Placed) (w : Nat) (d : Int) : Prop := soundP a.time ∧ bits .and .i64 (a.time.weeks.fdiv (2 ^ w)) 1 = 1 ∧ a.time.day = d
theorem c_on (a : Placed) (w : Nat) (d : Int) (hw : w < 20) : PCall Tryz.prog 143 [ag a.row, vint .i64 ((w : Int) + 1), vint .i64 d] (fun r => r = vbool (pB (onP a w d))) := by
  have hs : a.time.weeks.fdiv (2 ^ min ((w : Int) + 1 - 1).toNat IntKind.i64.bits) = a.time.weeks.fdiv (2 ^ w) := by
    have : min ((w : Int) + 1 - 1).toNat IntKind.i64.bits = w := by
      have : IntKind.i64.bits = 64 := rfl
      rw [this]; omega
    rw [this]
  refine acall_of tok mixed 27 rfl (fn := Tryz.f143) (c := Tryz.f143.body.getD .skip) (by kernel_rfl) (by kernel_rfl) (by kernel_rfl) rfl 0 rfl ?_
  repeat' (first | (refine ⟨_, hs, ?_⟩) | (refine (eqv_rfl ?_ : eqv (bits _ _ _ _) _)) | refine o1 ?_ | refine o2 ?_ | refine k1 ?_ | refine k2 ?_ | refine k7 ?_ | refine And.intro ?_ ?_ | (intro h; first | exact Bool.noConfusion h | exact nz _ h | exact nl h | (simp at h; done) | (simp at h; first | (exfalso; omega) | skip) | skip) | (change retOk _ _ _ _; refine ret_pure rfl trivial ?_) | (refine (?_ : (0 : Int) ≤ _); omega) | refine eqv_wrap (by omega) (by omega) ?_ | (change vcFun _ _ _ _ _; refine call_eq rfl (by repeat' (first | trivial | refine And.intro ?_ ?_ | (show 0 + _ ≤ List.length _; simp))) ALeL.refl (c_sound a.time) rfl ?_) | fail)
  all_goals first
    | exact congrArg vbool (pB_f fun h => by obtain ⟨h1, h2, h3⟩ := h; simp_all).symm
    | exact congrArg vbool (pB_eq (by unfold onP; simp_all)).symm
    | exact congrArg vbool (pB_eq (by unfold onP; simp_all))
end Go.Proofs.YtmaambipopgdkaaGreat.Cw
