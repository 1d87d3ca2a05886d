/-
  Part 6 of the proof (C6, C7, C2, C4c, C8, BQ, O1, S1, Sq1, Sq2, Sq3, S2, S3): what later parts use. No conditions.
-/
import Derived.Test.YtkbaecjnhmbeeaaGreatMG5
/-
  Contracts: requests.
-/
namespace Go.Proofs.YtkbaecjnhmbeeaaGreat.Cw
open Go.Cw Go.Proofs
set_option linter.unusedVariables false
set_option maxRecDepth 100000
set_option maxHeartbeats 1000000
open Classical in
noncomputable def insE (r : Req) (i : Nat) : Int := match r.instead[i]? with
  | none => 0
  | some c => if ¬ codeP c then 10 else if c = r.course then 11 else if aheadS r.instead i c then 11 else 0
section
variable {r : Req} {i : Nat} {s : Str} (hs : r.instead[i]? = some s)
include hs
theorem nE1 (h : ¬ codeP s) : insE r i = 10 := by unfold insE; rw [hs]; dsimp only; rw [if_pos h]
theorem nE2 (h0 : codeP s) (h : s = r.course) : insE r i = 11 := by unfold insE; rw [hs]; dsimp only; rw [if_neg (by simp [h0]), if_pos h]
theorem nE3 (h0 : codeP s) (h1 : ¬ s = r.course) (h : aheadS r.instead i s = true) : insE r i = 11 := by unfold insE; rw [hs]; dsimp only; rw [if_neg (by simp [h0]), if_neg h1, if_pos h]
theorem nE4 (h0 : codeP s) (h1 : ¬ s = r.course) (h : aheadS r.instead i s = false) : insE r i = 0 := by unfold insE; rw [hs]; dsimp only; rw [if_neg (by simp [h0]), if_neg h1, if_neg (by simp [h])]
end
open Classical in
noncomputable def rqE (r : Req) : Int := if ¬ codeP r.student ∨ ¬ codeP r.course then 10 else if r.prio < 1 ∨ 9 < r.prio then 3 else if 8 < r.instead.length then 2 else firstE (insE r) r.instead.length
section
variable {r : Req}
theorem oE1 (h : ¬ codeP r.student ∨ ¬ codeP r.course) : rqE r = 10 := by unfold rqE; rw [if_pos h]
variable (h1 : codeP r.student) (h2 : codeP r.course)
include h1 h2
theorem oE2 (h : r.prio < 1 ∨ 9 < r.prio) : rqE r = 3 := by unfold rqE; rw [if_neg (by simp [h1, h2]), if_pos h]
variable (h3 : 1 ≤ r.prio ∧ r.prio ≤ 9)
include h3
theorem oE3 (h : 8 < r.instead.length) : rqE r = 2 := by unfold rqE; rw [if_neg (by simp [h1, h2]), if_neg (by omega), if_pos h]
theorem oE4 (h : r.instead.length ≤ 8) : rqE r = firstE (insE r) r.instead.length := by unfold rqE; rw [if_neg (by simp [h1, h2]), if_neg (by omega), if_neg (by omega)]
end
theorem c_request (r : Req) : PCall Tryz.prog 133 [ag r.row] (fun a => a = vint .i64 (rqE r)) := by
  refine acall_of tok mixed 56 rfl (fn := Tryz.f133) (c := Tryz.f133.body.getD .skip) (by kernel_rfl) (by kernel_rfl) (by kernel_rfl) rfl 0 rfl ?_
  repeat' (first | refine o1 ?_ | refine o2 ?_ | refine k1 ?_ | refine k2 ?_ | refine k3 ?_ | refine k4 ?_ | refine k6 ?_ | refine k7 ?_ | refine And.intro ?_ ?_ | (intro h; first | exact Bool.noConfusion h | exact nz _ h | exact nl h | (simp at h; done) | (simp at h; first | (exfalso; omega) | skip) | skip) | (change retOk _ _ _ _; refine ret_pure rfl trivial ?_) | refine eqv_len_map ?_ | (change vcFun _ _ _ _ _; refine call_eq rfl (by repeat' (first | trivial | refine And.intro ?_ ?_ | (show 0 + _ ≤ List.length _; simp))) ALeL.refl (c_code r.student) rfl ?_) | (change vcFun _ _ _ _ _; refine call_eq rfl (by repeat' (first | trivial | refine And.intro ?_ ?_ | (show 0 + _ ≤ List.length _; simp))) ALeL.refl (c_code r.course) rfl ?_) | fail)
  all_goals try first
    | exact vi (oE1 (by first | exact .inl (by assumption) | exact .inr (by assumption)))
    | exact vi (oE2 (by assumption) (by assumption) (by omega))
    | exact vi (oE3 (by assumption) (by assumption) (by omega) (by omega))
  have hn : r.instead.length ≤ 8 := by omega
  have hfin := oE4 (r := r) (by assumption) (by assumption) (by omega) hn
  refine loop_at (fun i : Nat => [(33, vint .i64 i)]) (fun _ => []) (fun i => i ≤ r.instead.length ∧ ∀ j, j < i → insE r j = 0) (fun i => r.instead.length - i) 0 ⟨by omega, fun j hj => by omega⟩ (by repeat' (first | exact trivial | exact ⟨_, rfl, ALe.refl⟩ | refine And.intro ?_ ?_)) (by repeat' (first | exact trivial | exact rfl | refine And.intro ?_ ?_)) ?_
  intro i ⟨hi, hall⟩
  rcases Nat.lt_or_ge i r.instead.length with hlt | hge
  · obtain ⟨s, hs⟩ := getE hlt
    have hcc : PCall Tryz.prog 126 [.pv (encStrs (r.instead.take i)), .pv (es s)] (fun a => a = vbool (aheadS r.instead i s)) := c_contains (r.instead.take i) s (by rw [List.length_take]; omega)
    repeat' (first | (refine slice_to hi ?_) | refine o1 ?_ | refine o2 ?_ | refine k1 ?_ | refine k2 ?_ | refine k3 ?_ | refine k4 ?_ | refine k6 ?_ | refine k7 ?_ | refine And.intro ?_ ?_ | (intro h; first | exact Bool.noConfusion h | exact nz _ h | exact nl h | (simp at h; done) | (simp at h; first | (exfalso; omega) | skip) | skip) | (change retOk _ _ _ _; refine ret_pure rfl trivial ?_) | refine eqv_wrap (by omega) (by omega) ?_ | refine ⟨_, _, (by first | rfl | assumption), at_map (by assumption), ?_⟩ | (change vcFun _ _ _ _ _; refine call_eq rfl (by repeat' (first | trivial | refine And.intro ?_ ?_ | (show 0 + _ ≤ List.length _; simp))) ALeL.refl (c_code s) rfl ?_) | (change vcFun _ _ _ _ _; refine call_eq rfl (by repeat' (first | trivial | refine And.intro ?_ ?_ | (show 0 + _ ≤ List.length _; simp))) ALeL.refl (hcc) rfl ?_) | fail)
    all_goals first
      | exact first_fin hall hlt (by decide) hfin (nE1 hs (by assumption))
      | exact first_fin hall hlt (by decide) hfin (nE2 hs (by assumption) (sEq_iff.1 (by assumption)))
      | exact first_fin hall hlt (by decide) hfin (nE3 hs (by assumption) (sEq_f.1 (by assumption)) (by assumption))
      | exact ⟨i + 1, ⟨by omega, all_lt_succ hall (nE4 hs (by assumption) (sEq_f.1 (by assumption)) (by assumption))⟩, by omega, back [0] rfl rfl ⟨rfl, trivial⟩ (by repeat' (first | exact trivial | exact rfl | refine And.intro ?_ ?_))⟩
  · repeat' (first | refine o1 ?_ | refine o2 ?_ | refine k1 ?_ | refine k2 ?_ | refine k3 ?_ | refine k7 ?_ | refine k8 ?_ | refine And.intro ?_ ?_ | (intro h; first | exact Bool.noConfusion h | exact nz _ h | exact nl h | (simp at h; done) | (simp at h; first | (exfalso; omega) | skip) | skip) | (change retOk _ _ _ _; refine ret_pure rfl trivial ?_) | fail)
    exact vi (by rw [hfin, firstE_zero fun j hj => hall j (by omega)])
open Classical in
noncomputable def seenTo (l : List Req) : Nat → List Str
  | 0 => []
  | n + 1 => match l[n]? with
    | none => seenTo l n
    | some r => if r.student ∈ seenTo l n then seenTo l n else seenTo l n ++ [r.student]
theorem seen_in {l : List Req} {n : Nat} {r : Req} (hr : l[n]? = some r) (h : r.student ∈ seenTo l n) : seenTo l (n + 1) = seenTo l n := by simp only [seenTo]; rw [hr]; dsimp only; rw [if_pos h]
theorem seen_new {l : List Req} {n : Nat} {r : Req} (hr : l[n]? = some r) (h : ¬ r.student ∈ seenTo l n) : seenTo l (n + 1) = seenTo l n ++ [r.student] := by simp only [seenTo]; rw [hr]; dsimp only; rw [if_neg h]
theorem seen_len (l : List Req) : ∀ n, (seenTo l n).length ≤ n
  | 0 => by simp [seenTo]
  | n + 1 => by
    have := seen_len l n
    simp only [seenTo]
    split
    · omega
    · split
      · omega
      · simp; omega
noncomputable def rdup (l : List Req) (r : Req) : Bool := l.any fun y => pB (y.student = r.student ∧ y.course = r.course)
open Classical in
noncomputable def reqE (l : List Req) (i : Nat) : Int := match l[i]? with
  | none => 0
  | some r => if rqE r ≠ 0 then rqE r else if rdup (l.take i) r then 11 else if 64 < (seenTo l (i + 1)).length then 2 else 0
open Classical in
noncomputable def reqsE (l : List Req) : Int := if 400 < l.length then 2 else firstE (reqE l) l.length
section
variable {l : List Req} {i : Nat} {r : Req} (hr : l[i]? = some r)
include hr
theorem aE1 (h : ¬ rqE r = 0) : reqE l i = rqE r := by unfold reqE; rw [hr]; dsimp only; rw [if_pos h]
variable (h0 : rqE r = 0)
include h0
theorem aE2 (h : rdup (l.take i) r = true) : reqE l i = 11 := by unfold reqE; rw [hr]; dsimp only; rw [if_neg (by simp [h0]), if_pos h]
variable (h1 : rdup (l.take i) r = false)
include h1
theorem aE3 (h : 64 < (seenTo l (i + 1)).length) : reqE l i = 2 := by unfold reqE; rw [hr]; dsimp only; rw [if_neg (by simp [h0]), if_neg (by simp [h1]), if_pos h]
theorem aE4 (h : (seenTo l (i + 1)).length ≤ 64) : reqE l i = 0 := by unfold reqE; rw [hr]; dsimp only; rw [if_neg (by simp [h0]), if_neg (by simp [h1]), if_neg (by omega)]
end
theorem c_qhas1 (x r : Req) : PCall Tryz.prog 231 [ag x.row, .pv (.ia r.row)] (fun a => a = vbool (pB (x.student = r.student ∧ x.course = r.course))) := by
  refine acall_of tok mixed 16 rfl (fn := Tryz.f231) (c := Tryz.f231.body.getD .skip) (by kernel_rfl) (by kernel_rfl) (by kernel_rfl) rfl 0 rfl ?_
  repeat' (first | refine o1 ?_ | refine o2 ?_ | refine k1 ?_ | refine k2 ?_ | refine k7 ?_ | refine And.intro ?_ ?_ | (intro h; first | exact Bool.noConfusion h | exact nz _ h | exact nl h | (simp at h; done) | (simp at h; first | (exfalso; omega) | skip) | skip) | (change retOk _ _ _ _; refine ret_pure rfl trivial ?_) | fail)
  all_goals first
    | exact vb (pB_f fun h => absurd h.1 (sEq_f.1 (by assumption)))
    | (refine congrArg vbool (pB_eq ?_); have := sEq_iff.1 (by assumption : sEq x.student r.student = true); rw [sEq_iff]; simp [this])
theorem c_qhas (l : List Req) (r : Req) (hl : l.length ≤ 100000) : PCall Tryz.prog 134 [.pv (.sl 4 (l.map Req.row)), ag r.row] (fun a => a = vbool (rdup l r)) := by
  refine acall_of tok mixed 8 rfl (fn := Tryz.f134) (c := Tryz.f134.body.getD .skip) (by kernel_rfl) (by kernel_rfl) (by kernel_rfl) rfl 0 rfl ?_
  repeat' (first | refine o1 ?_ | refine o2 ?_ | refine k1 ?_ | refine k2 ?_ | refine k7 ?_ | (change retOk _ _ _ _; refine ret_pure rfl trivial ?_) | (change vcFun _ _ _ _ _; refine call_eq rfl (by repeat' (first | trivial | refine And.intro ?_ ?_ | (show 0 + _ ≤ List.length _; simp))) ALeL.refl (c_any_req l 231 [.ia r.row] (fun x => pB (x.student = r.student ∧ x.course = r.course)) hl (fun x _ => c_qhas1 x r)) rfl ?_) | fail)
  rfl
noncomputable def fidx (l : List Req) (a b : Str) : Int := idxB (fun y : Req => pB (y.student = a ∧ y.course = b)) l
theorem c_rfind (l : List Req) (a b : Str) (hl : l.length ≤ 100000) : PCall Tryz.prog 186 [.pv (.sl 4 (l.map Req.row)), .pv (es a), .pv (es b)] (fun r => r = vint .i64 (fidx l a b)) := by
  refine acall_of tok mixed 31 rfl (fn := Tryz.f186) (c := Tryz.f186.body.getD .skip) (by kernel_rfl) (by kernel_rfl) (by kernel_rfl) rfl 0 rfl ?_
  repeat' (first | refine o1 ?_ | refine o2 ?_ | refine k1 ?_ | refine k2 ?_ | refine k4 ?_ | fail)
  refine loop_at (fun i : Nat => [(7, vint .i64 i)]) (fun _ => []) (fun i => i ≤ l.length ∧ ∀ j, j < i → ∀ q, l[j]? = some q → pB (q.student = a ∧ q.course = b) = false) (fun i => l.length - i) 0 ⟨by omega, fun j hj => by omega⟩ (by repeat' (first | exact trivial | exact ⟨_, rfl, ALe.refl⟩ | refine And.intro ?_ ?_)) (by repeat' (first | exact trivial)) ?_
  intro i ⟨hi, hall⟩
  rcases Nat.lt_or_ge i l.length with hlt | hge
  · obtain ⟨q, hq⟩ := getE hlt
    by_cases e1 : q.student = a
    · by_cases e2 : q.course = b
      · have s1 := sEq_iff.2 e1
        have s2 := sEq_iff.2 e2
        repeat' (first | refine o1 ?_ | refine o2 ?_ | refine k1 ?_ | refine k2 ?_ | refine k3 ?_ | refine k4 ?_ | refine k6 ?_ | refine k7 ?_ | refine And.intro ?_ ?_ | (intro h; first | exact Bool.noConfusion h | exact nz _ h | exact nl h | (simp at h; done) | (simp at h; first | (exfalso; omega) | skip) | skip) | (change retOk _ _ _ _; refine ret_pure rfl trivial ?_) | refine eqv_len_map ?_ | refine eqv_wrap (by omega) (by omega) ?_ | refine ⟨_, _, (by first | rfl | assumption), at_map (by assumption), ?_⟩ | fail)
        all_goals first
          | exact congrArg (vint .i64) (idxB_at (p := fun y : Req => pB (y.student = a ∧ y.course = b)) hall hq (pB_t ⟨e1, e2⟩)).symm
          | (exfalso; simp_all; done)
      · have s2 := sEq_f.2 e2
        repeat' (first | refine o1 ?_ | refine o2 ?_ | refine k1 ?_ | refine k2 ?_ | refine k3 ?_ | refine k4 ?_ | refine k6 ?_ | refine k7 ?_ | refine And.intro ?_ ?_ | (intro h; first | exact Bool.noConfusion h | exact nz _ h | exact nl h | (simp at h; done) | (simp at h; first | (exfalso; omega) | skip) | skip) | (change retOk _ _ _ _; refine ret_pure rfl trivial ?_) | refine eqv_len_map ?_ | refine eqv_wrap (by omega) (by omega) ?_ | refine ⟨_, _, (by first | rfl | assumption), at_map (by assumption), ?_⟩ | fail)
        all_goals first
          | (exfalso; simp_all; done)
          | exact ⟨i + 1, ⟨by omega, all_lt_succ hall fun q' h' => by rw [hq] at h'; cases h'; exact pB_f (fun h => e2 h.2)⟩, by omega, back [] rfl rfl trivial (by repeat' (first | exact trivial | exact rfl | refine And.intro ?_ ?_))⟩
    · have s1 := sEq_f.2 e1
      repeat' (first | refine o1 ?_ | refine o2 ?_ | refine k1 ?_ | refine k2 ?_ | refine k3 ?_ | refine k4 ?_ | refine k6 ?_ | refine k7 ?_ | refine And.intro ?_ ?_ | (intro h; first | exact Bool.noConfusion h | exact nz _ h | exact nl h | (simp at h; done) | (simp at h; first | (exfalso; omega) | skip) | skip) | (change retOk _ _ _ _; refine ret_pure rfl trivial ?_) | refine eqv_len_map ?_ | refine eqv_wrap (by omega) (by omega) ?_ | refine ⟨_, _, (by first | rfl | assumption), at_map (by assumption), ?_⟩ | fail)
      all_goals first
        | (exfalso; simp_all; done)
        | exact ⟨i + 1, ⟨by omega, all_lt_succ hall fun q' h' => by rw [hq] at h'; cases h'; exact pB_f (fun h => e1 h.1)⟩, by omega, back [] rfl rfl trivial (by repeat' (first | exact trivial | exact rfl | refine And.intro ?_ ?_))⟩
  · repeat' (first | refine o1 ?_ | refine o2 ?_ | refine k1 ?_ | refine k2 ?_ | refine k3 ?_ | refine k7 ?_ | refine k8 ?_ | refine And.intro ?_ ?_ | (intro h; first | exact Bool.noConfusion h | exact nz _ h | exact nl h | (simp at h; done) | (simp at h; first | (exfalso; omega) | skip) | skip) | (change retOk _ _ _ _; refine ret_pure rfl trivial ?_) | refine eqv_len_map ?_ | fail)
    exact congrArg (vint .i64) (idxB_none fun j hj => hall j (by omega)).symm
theorem putM_len {k : Str} {v : AV} {ck : Nat} : ∀ {es : List (Value × Nat × AV)}, (getM (.string k) es = none → (putM (.string k) v ck es).length = es.length + 1) ∧ (∀ x, getM (.string k) es = some x → (putM (.string k) v ck es).length = es.length)
  | [] => ⟨fun _ => rfl, fun x h => by simp [getM] at h⟩
  | e :: l => by
    obtain ⟨h1, h2⟩ := putM_len (k := k) (v := v) (ck := ck) (es := l)
    simp only [getM, putM]
    cases kEq (.string k) e.1
    · simp only [cond_false, List.length_cons]
      exact ⟨fun h => by rw [h1 h], fun x h => by rw [h2 x h]⟩
    · simp
def mapQ (l : List Req) (i : Nat) (es : List (Value × Nat × AV)) : Prop := (strM es ∧ pureM es) ∧ es.length = (seenTo l i).length ∧ ∀ c : Str, (c ∈ seenTo l i → ∃ n : Nat, n ≤ i ∧ getM (.string c) es = some (vint .i64 n)) ∧ (¬ c ∈ seenTo l i → getM (.string c) es = none)
theorem mapQ_in {l : List Req} {i n ck : Nat} {es : List (Value × Nat × AV)} {r : Req} (h : mapQ l i es) (hr : l[i]? = some r) (hm : r.student ∈ seenTo l i) (hg : getM (.string r.student) es = some (vint .i64 n)) (hn : n ≤ i) : mapQ l (i + 1) (putM (.string r.student) (vint .i64 ((n : Int) + 1)) ck es) := by
  obtain ⟨⟨g1, g2⟩, g3, g4⟩ := h
  refine ⟨⟨strM_put g1, pureM_put g2⟩, by rw [(putM_len).2 _ hg, seen_in hr hm, g3], fun c => ?_⟩
  rw [seen_in hr hm]
  have hp := get_put_str (a := c) (b := r.student) (v := vint .i64 ((n : Int) + 1)) (ck := ck) g1
  by_cases e : c = r.student
  · subst e
    exact ⟨fun _ => ⟨n + 1, by omega, by rw [hp.1 rfl]; rfl⟩, fun hn => absurd hm hn⟩
  · rw [hp.2 e]
    exact ⟨fun hc => by obtain ⟨m, k1, k2⟩ := (g4 c).1 hc; exact ⟨m, by omega, k2⟩, (g4 c).2⟩
theorem mapQ_new {l : List Req} {i ck : Nat} {es : List (Value × Nat × AV)} {r : Req} (h : mapQ l i es) (hr : l[i]? = some r) (hm : ¬ r.student ∈ seenTo l i) : mapQ l (i + 1) (putM (.string r.student) (vint .i64 1) ck es) := by
  obtain ⟨⟨g1, g2⟩, g3, g4⟩ := h
  refine ⟨⟨strM_put g1, pureM_put g2⟩, by rw [(putM_len).1 ((g4 _).2 hm), seen_new hr hm, g3, List.length_append]; rfl, fun c => ?_⟩
  rw [seen_new hr hm]
  have hp := get_put_str (a := c) (b := r.student) (v := vint .i64 1) (ck := ck) g1
  by_cases e : c = r.student
  · subst e
    exact ⟨fun _ => ⟨1, by omega, by rw [hp.1 rfl]; rfl⟩, fun hn => absurd (by simp) hn⟩
  · rw [hp.2 e]
    refine ⟨fun hc => ?_, fun hc => (g4 c).2 fun h => hc (by simp [h])⟩
    rcases List.mem_append.1 hc with h | h
    · obtain ⟨m, k1, k2⟩ := (g4 c).1 h; exact ⟨m, by omega, k2⟩
    · simp at h; exact absurd h e
theorem c_reqs (l : List Req) : PCall Tryz.prog 60 [.pv (.sl 4 (l.map Req.row))] (fun r => r = vint .i64 (reqsE l)) := by
  refine acall_of tok mixed 39 rfl (fn := Tryz.f60) (c := Tryz.f60.body.getD .skip) (by kernel_rfl) (by kernel_rfl) (by kernel_rfl) rfl 0 rfl ?_
  repeat' (first | refine o1 ?_ | refine o2 ?_ | refine k1 ?_ | refine k2 ?_ | refine k3 ?_ | refine k4 ?_ | refine k6 ?_ | refine k7 ?_ | refine And.intro ?_ ?_ | (intro h; first | exact Bool.noConfusion h | exact nz _ h | exact nl h | (simp at h; done) | (simp at h; first | (exfalso; omega) | skip) | skip) | (change retOk _ _ _ _; refine ret_pure rfl trivial ?_) | refine eqv_len_map ?_ | fail)
  · exact vi (by unfold reqsE; rw [if_pos (by omega)])
  have hn : l.length ≤ 400 := by omega
  have hfin : reqsE l = firstE (reqE l) l.length := by unfold reqsE; rw [if_neg (by omega)]
  refine loop_at (fun x : Nat × List (Value × Nat × AV) × Nat => [(13, vint .i64 x.1)]) (fun x => [(0, some (.mp .str .i64 x.2.1 x.2.2))]) (fun x => x.1 ≤ l.length ∧ mapQ l x.1 x.2.1 ∧ ∀ j, j < x.1 → reqE l j = 0) (fun x => l.length - x.1) (0, [], 0)
    ⟨by simp, ⟨⟨fun e he => by simp at he, fun e he => by simp at he⟩, rfl, fun c => ⟨fun h => by simp [seenTo] at h, fun _ => rfl⟩⟩, fun j hj => by simp at hj⟩ (by repeat' (first | exact trivial | exact ⟨_, rfl, ALe.refl⟩ | refine And.intro ?_ ?_)) (by repeat' (first | exact trivial | exact rfl | refine And.intro ?_ ?_)) ?_
  rintro ⟨i, es', ck⟩ ⟨hi, hmet, hall⟩
  dsimp only at hi hmet hall
  have hsl := seen_len l i
  rcases Nat.lt_or_ge i l.length with hlt | hge
  · obtain ⟨r, hr⟩ := getE hlt
    by_cases hm : r.student ∈ seenTo l i
    · obtain ⟨n, hni, hg⟩ := (hmet.2.2 r.student).1 hm
      have hlen := (putM_len (v := vint .i64 ((n : Int) + 1)) (ck := ck)).2 _ hg
      have hlen2 : (seenTo l (i + 1)).length = es'.length := by rw [seen_in hr hm, hmet.2.1]
      repeat' (first | (refine eqv_to _ hg ?_) | (refine slice_to hi ?_) | refine o1 ?_ | refine o2 ?_ | refine k1 ?_ | refine k2 ?_ | refine k3 ?_ | refine k4 ?_ | refine k6 ?_ | refine k7 ?_ | refine And.intro ?_ ?_ | refine o3 ?_ | refine o4 ?_ | (intro h; first | exact Bool.noConfusion h | exact nz _ h | exact nl h | (simp at h; done) | (simp at h; first | (exfalso; omega) | skip) | skip) | (change retOk _ _ _ _; refine ret_pure rfl trivial ?_) | exact (by kernel_rfl : drawOk _ _ = true) | refine eqv_put (eqv_ck ?_) | refine eqv_wrap (by omega) (by omega) ?_ | refine ⟨_, _, (by first | rfl | assumption), at_map (by assumption), ?_⟩ | (change vcFun _ _ _ _ _; refine call_eq rfl (by repeat' (first | trivial | refine And.intro ?_ ?_ | (show 0 + _ ≤ List.length _; simp))) ALeL.refl (c_request r) rfl ?_) | (change vcFunD _ _ _ _ _; refine callD_eq rfl (by repeat' (first | trivial | refine And.intro ?_ ?_ | (show 0 + _ ≤ List.length _; simp))) ALeL.refl (c_qhas (l.take i) r (by rw [List.length_take]; omega)) rfl ?_) | (refine eqv_to _ hlen ?_) | fail)
      all_goals first
        | exact first_fin2 hall hlt (by assumption) hfin (aE1 hr (by assumption))
        | exact first_fin hall hlt (by decide) hfin (aE2 hr (by assumption) (by assumption))
        | exact first_fin hall hlt (by decide) hfin (aE3 hr (by assumption) (by assumption) (by omega))
        | exact ⟨(i + 1, _, _), ⟨hlt, mapQ_in hmet hr hm hg hni, all_lt_succ hall (aE4 hr (by assumption) (by assumption) (by omega))⟩, by dsimp only; omega, back [0] rfl rfl ⟨(congrArg (fun o => some (some o)) (ren_mp (pureM_put (p := (.val (.int .i64 ((n : Int) + 1)))) (k := .string r.student) (ck := ck) hmet.1.2)).symm), trivial⟩ (by repeat' (first | exact trivial | exact rfl | refine And.intro ?_ ?_))⟩
    · have hg := (hmet.2.2 r.student).2 hm
      have hlen := (putM_len (v := vint .i64 1) (ck := ck)).1 hg
      have hlen2 : (seenTo l (i + 1)).length = es'.length + 1 := by rw [seen_new hr hm, List.length_append, hmet.2.1]; rfl
      repeat' (first | (refine eqv_to _ hg ?_) | (refine slice_to hi ?_) | refine o1 ?_ | refine o2 ?_ | refine k1 ?_ | refine k2 ?_ | refine k3 ?_ | refine k4 ?_ | refine k6 ?_ | refine k7 ?_ | refine And.intro ?_ ?_ | refine o3 ?_ | refine o4 ?_ | (intro h; first | exact Bool.noConfusion h | exact nz _ h | exact nl h | (simp at h; done) | (simp at h; first | (exfalso; omega) | skip) | skip) | (change retOk _ _ _ _; refine ret_pure rfl trivial ?_) | exact (by kernel_rfl : drawOk _ _ = true) | refine eqv_put (eqv_ck ?_) | refine eqv_wrap (by omega) (by omega) ?_ | refine ⟨_, _, (by first | rfl | assumption), at_map (by assumption), ?_⟩ | (change vcFun _ _ _ _ _; refine call_eq rfl (by repeat' (first | trivial | refine And.intro ?_ ?_ | (show 0 + _ ≤ List.length _; simp))) ALeL.refl (c_request r) rfl ?_) | (change vcFunD _ _ _ _ _; refine callD_eq rfl (by repeat' (first | trivial | refine And.intro ?_ ?_ | (show 0 + _ ≤ List.length _; simp))) ALeL.refl (c_qhas (l.take i) r (by rw [List.length_take]; omega)) rfl ?_) | (refine eqv_to _ hlen ?_) | fail)
      all_goals first
        | exact first_fin2 hall hlt (by assumption) hfin (aE1 hr (by assumption))
        | exact first_fin hall hlt (by decide) hfin (aE2 hr (by assumption) (by assumption))
        | exact first_fin hall hlt (by decide) hfin (aE3 hr (by assumption) (by assumption) (by omega))
        | exact ⟨(i + 1, _, _), ⟨hlt, mapQ_new hmet hr hm, all_lt_succ hall (aE4 hr (by assumption) (by assumption) (by omega))⟩, by dsimp only; omega, back [0] rfl rfl ⟨(congrArg (fun o => some (some o)) (ren_mp (pureM_put (p := (.val (.int .i64 1))) (k := .string r.student) (ck := ck) hmet.1.2)).symm), trivial⟩ (by repeat' (first | exact trivial | exact rfl | refine And.intro ?_ ?_))⟩
  · repeat' (first | refine o1 ?_ | refine o2 ?_ | refine k1 ?_ | refine k2 ?_ | refine k3 ?_ | refine k7 ?_ | refine k8 ?_ | refine And.intro ?_ ?_ | (intro h; first | exact Bool.noConfusion h | exact nz _ h | exact nl h | (simp at h; done) | (simp at h; first | (exfalso; omega) | skip) | skip) | (change retOk _ _ _ _; refine ret_pure rfl trivial ?_) | fail)
    exact vi (by rw [hfin, firstE_zero fun j hj => hall j (by omega)])
noncomputable def memS (l : List Str) (s : Str) : Bool := pB (s ∈ l)
theorem memS_t {l : List Str} {s : Str} (h : memS l s = true) : s ∈ l := by simpa [memS] using h
theorem memS_f {l : List Str} {s : Str} (h : memS l s = false) : ¬ s ∈ l := by simpa [memS] using h
theorem fidx_lt {l : List Req} {i : Nat} {r : Req} (hr : l[i]? = some r) (h : fidx l r.student r.course < i) : rdup (l.take i) r = true := idxB_lt (p := fun y : Req => pB (y.student = r.student ∧ y.course = r.course)) hr (pB_t ⟨rfl, rfl⟩) h
theorem fidx_ge {l : List Req} {i : Nat} {r : Req} (hr : l[i]? = some r) (h : (i : Int) ≤ fidx l r.student r.course) : rdup (l.take i) r = false := idxB_ge (p := fun y : Req => pB (y.student = r.student ∧ y.course = r.course)) hr (pB_t ⟨rfl, rfl⟩) h
theorem le_strs0 {x : AV} : ALeL [.pv (.val (.slice none 0 0)), x] [.pv (encStrs []), x] := ⟨ALe.pv PLe.nil, ALe.refl, trivial⟩
theorem le_strs1 {x : AV} {l : List Str} {n : Nat} (h : l.length ≤ n) : ALeL [.pv (.sl 1 (List.take n (List.drop 0 (l.map fun s : Str => [es s])))), x] [.pv (encStrs l), x] := ⟨ALe.pv (whole_le h), ALe.refl, trivial⟩
theorem rq_bad {l : List Req} {i k : Nat} {r : Req} {e : Int} (hr : l[i]? = some r) (h : rqE r = firstE (insE r) r.instead.length) (hall : ∀ j, j < k → insE r j = 0) (hk : k < r.instead.length) (he : e ≠ 0) (h2 : insE r k = e) : reqE l i = e := by
  have : rqE r = e := by rw [h, firstE_at hall (by rw [h2]; exact he) hk, h2]
  rw [aE1 hr (by rw [this]; exact he), this]
theorem c_rreqs (l : List Req) : PCall Tryz.prog 90 [.pv (.sl 4 (l.map Req.row))] (fun r => r = vint .i64 (reqsE l)) := by
  refine acall_of tok mixed 97 rfl (fn := Tryz.f90) (c := Tryz.f90.body.getD .skip) (by kernel_rfl) (by kernel_rfl) (by kernel_rfl) rfl 0 rfl ?_
  repeat' (first | refine o1 ?_ | refine o2 ?_ | refine k1 ?_ | refine k2 ?_ | refine k3 ?_ | refine k4 ?_ | refine k6 ?_ | refine k7 ?_ | refine And.intro ?_ ?_ | (intro h; first | exact Bool.noConfusion h | exact nz _ h | exact nl h | (simp at h; done) | (simp at h; first | (exfalso; omega) | skip) | skip) | (change retOk _ _ _ _; refine ret_pure rfl trivial ?_) | refine eqv_len_map ?_ | fail)
  · exact vi (by unfold reqsE; rw [if_pos (by omega)])
  have hn : l.length ≤ 400 := by omega
  have hfin : reqsE l = firstE (reqE l) l.length := by unfold reqsE; rw [if_neg (by omega)]
  refine loop_in (fun i : Nat => [(3, slP 0 1 ((seenTo l i).map fun s : Str => [es s])), (4, vint .i64 i)]) (fun i => [obP 9 1 ((seenTo l i).map fun s : Str => [es s])]) (fun i => i ≤ l.length ∧ ∀ j, j < i → reqE l j = 0) (fun i => l.length - i) 0 ⟨Nat.zero_le _, fun j hj => absurd hj (Nat.not_lt_zero _)⟩ ⟨?_, ?_⟩
  · exact back [0] rfl rfl (by repeat' (first | exact trivial)) (by repeat' (first | exact trivial | exact rfl | refine And.intro ?_ ?_))
  intro i ⟨hi, hall⟩
  have hsl := seen_len l i
  rcases Nat.lt_or_ge i l.length with hlt | hge
  · obtain ⟨r, hr⟩ := getE hlt
    have hin0 := seen_in hr
    have hnew := seen_new hr
    generalize seenTo l i = S at *
    rcases S with _ | ⟨s0, S⟩
    · dsimp only [slP, obP, nilA, List.map, List.length_cons, List.length_nil, List.length_map]
      repeat' (first | refine o1 ?_ | refine o2 ?_ | refine k1 ?_ | refine k2 ?_ | refine k3 ?_ | refine k4 ?_ | refine k6 ?_ | refine k7 ?_ | refine And.intro ?_ ?_ | (intro h; first | exact Bool.noConfusion h | exact nz _ h | exact nl h | (simp at h; done) | (simp at h; first | (exfalso; omega) | skip) | skip) | (change retOk _ _ _ _; refine ret_pure rfl trivial ?_) | exact (by kernel_rfl : drawOk _ _ = true) | refine eqv_len_map ?_ | refine ⟨_, _, (by first | rfl | assumption), at_map (by assumption), ?_⟩ | (change vcFun _ _ _ _ _; refine call_eq rfl (by repeat' (first | trivial | refine And.intro ?_ ?_ | (show 0 + _ ≤ List.length _; simp))) ALeL.refl (c_rcode r.student) rfl ?_) | (change vcFun _ _ _ _ _; refine call_eq rfl (by repeat' (first | trivial | refine And.intro ?_ ?_ | (show 0 + _ ≤ List.length _; simp))) ALeL.refl (c_rcode r.course) rfl ?_) | fail)
      all_goals try first
        | exact first_fin hall hlt (by decide) hfin ((aE1 hr (by rw [oE1 (by first | exact .inl (by assumption) | exact .inr (by assumption))]; decide)).trans (oE1 (by first | exact .inl (by assumption) | exact .inr (by assumption))))
        | exact first_fin hall hlt (by decide) hfin ((aE1 hr (by rw [oE2 (by assumption) (by assumption) (by omega)]; decide)).trans (oE2 (by assumption) (by assumption) (by omega)))
        | exact first_fin hall hlt (by decide) hfin ((aE1 hr (by rw [oE3 (by assumption) (by assumption) (by omega) (by omega)]; decide)).trans (oE3 (by assumption) (by assumption) (by omega) (by omega)))
      have h8 : r.instead.length ≤ 8 := by omega
      have hrq := oE4 (r := r) (by assumption) (by assumption) (by omega) h8
      refine loop_at (fun k : Nat => [(6, vint .i64 k)]) (fun _ => []) (fun k => k ≤ r.instead.length ∧ ∀ j, j < k → insE r j = 0) (fun k => r.instead.length - k) 0 ⟨by omega, fun j hj => by omega⟩ (by repeat' (first | exact trivial | exact ⟨_, rfl, ALe.refl⟩ | refine And.intro ?_ ?_)) (by repeat' (first | exact trivial | exact rfl | refine And.intro ?_ ?_)) ?_
      intro k ⟨hk, hin⟩
      rcases Nat.lt_or_ge k r.instead.length with hkl | hkg
      · obtain ⟨s, hs⟩ := getE hkl
        have hcr2 : PCall Tryz.prog 106 [.pv (encStrs (r.instead.take k)), .pv (es s)] (fun a => a = vbool (aheadS r.instead k s)) := c_has (r.instead.take k) s (by rw [List.length_take]; omega)
        repeat' (first | (refine slice_to hk ?_) | refine o1 ?_ | refine o2 ?_ | refine k1 ?_ | refine k2 ?_ | refine k3 ?_ | refine k4 ?_ | refine k6 ?_ | refine k7 ?_ | refine And.intro ?_ ?_ | refine o3 ?_ | refine o4 ?_ | (intro h; first | exact Bool.noConfusion h | exact nz _ h | exact nl h | (simp at h; done) | (simp at h; first | (exfalso; omega) | skip) | skip) | (change retOk _ _ _ _; refine ret_pure rfl trivial ?_) | exact (by kernel_rfl : drawOk _ _ = true) | refine eqv_len_map ?_ | refine eqv_wrap (by omega) (by omega) ?_ | refine ⟨_, _, (by first | rfl | assumption), at_map (by assumption), ?_⟩ | (change vcFun _ _ _ _ _; refine call_eq rfl (by repeat' (first | trivial | refine And.intro ?_ ?_ | (show 0 + _ ≤ List.length _; simp))) ALeL.refl (c_rcode s) rfl ?_) | (change vcFunD _ _ _ _ _; refine callD_eq rfl (by repeat' (first | trivial | refine And.intro ?_ ?_ | (show 0 + _ ≤ List.length _; simp))) ALeL.refl (hcr2) rfl ?_) | fail)
        all_goals first
          | exact first_fin hall hlt (by decide) hfin (rq_bad hr hrq hin hkl (by decide) (nE1 hs (by assumption)))
          | exact first_fin hall hlt (by decide) hfin (rq_bad hr hrq hin hkl (by decide) (nE2 hs (by assumption) (sEq_iff.1 (by assumption))))
          | exact first_fin hall hlt (by decide) hfin (rq_bad hr hrq hin hkl (by decide) (nE3 hs (by assumption) (sEq_f.1 (by assumption)) (by assumption)))
          | exact ⟨k + 1, ⟨by omega, all_lt_succ hin (nE4 hs (by assumption) (sEq_f.1 (by assumption)) (by assumption))⟩, by omega, back [0, 1] rfl rfl ⟨rfl, trivial⟩ (by repeat' (first | exact trivial | exact rfl | refine And.intro ?_ ?_))⟩
      have h0 : rqE r = 0 := by rw [hrq, firstE_zero fun j hj => hin j (by omega)]
      have hfd := c_rfind l r.student r.course (by omega)
      have hhs : PCall Tryz.prog 106 [.pv (encStrs ([])), .pv (es r.student)] (fun a => a = vbool (memS ([]) r.student)) := c_has ([]) r.student (by simp)
      repeat' (first | ((change vcFun _ _ _ _ _; refine call_eq rfl (by repeat' (first | trivial | refine And.intro ?_ ?_ | (show 0 + _ ≤ List.length _; simp))) le_strs0 hhs rfl ?_)) | refine o1 ?_ | refine o2 ?_ | refine k1 ?_ | refine k2 ?_ | refine k3 ?_ | refine k6 ?_ | refine k7 ?_ | refine k8 ?_ | refine And.intro ?_ ?_ | (intro h; first | exact Bool.noConfusion h | exact nz _ h | exact nl h | (simp at h; done) | (simp at h; first | (exfalso; omega) | skip) | skip) | (change retOk _ _ _ _; refine ret_pure rfl trivial ?_) | (refine (?_ : srcLen _ = rowsLen _); rfl) | exact Nat.le_of_ble_eq_true rfl | refine eqv_len_map ?_ | refine eqv_wrap (by omega) (by omega) ?_ | refine eqv_to _ (app_first rfl) (eqv_to 1 rfl ?_) | refine Or.inl ?_ | (change vcFun _ _ _ _ _; refine call_eq rfl (by repeat' (first | trivial | refine And.intro ?_ ?_ | (show 0 + _ ≤ List.length _; simp))) ALeL.refl (hfd) rfl ?_) | fail)
      all_goals first
        | exact first_fin hall hlt (by decide) hfin (aE2 hr h0 (fidx_lt hr (by omega)))
        | (exfalso; have := memS_t (by assumption); simp at this; done)
        | (refine ⟨i + 1, ⟨hlt, all_lt_succ hall (aE4 hr h0 (fidx_ge hr (by omega)) (by rw [hnew (by simp)]; simp))⟩, by omega, ?_⟩
           rw [hnew (by simp)]
           exact back [3] rfl rfl ⟨rfl, trivial⟩ (by repeat' (first | exact trivial | exact rfl | refine And.intro ?_ ?_)))
    · dsimp only [slP, obP, nilA, List.map, List.length_cons, List.length_nil, List.length_map]
      repeat' (first | refine o1 ?_ | refine o2 ?_ | refine k1 ?_ | refine k2 ?_ | refine k3 ?_ | refine k4 ?_ | refine k6 ?_ | refine k7 ?_ | refine And.intro ?_ ?_ | (intro h; first | exact Bool.noConfusion h | exact nz _ h | exact nl h | (simp at h; done) | (simp at h; first | (exfalso; omega) | skip) | skip) | (change retOk _ _ _ _; refine ret_pure rfl trivial ?_) | exact (by kernel_rfl : drawOk _ _ = true) | refine eqv_len_map ?_ | refine ⟨_, _, (by first | rfl | assumption), at_map (by assumption), ?_⟩ | (change vcFun _ _ _ _ _; refine call_eq rfl (by repeat' (first | trivial | refine And.intro ?_ ?_ | (show 0 + _ ≤ List.length _; simp))) ALeL.refl (c_rcode r.student) rfl ?_) | (change vcFun _ _ _ _ _; refine call_eq rfl (by repeat' (first | trivial | refine And.intro ?_ ?_ | (show 0 + _ ≤ List.length _; simp))) ALeL.refl (c_rcode r.course) rfl ?_) | fail)
      all_goals try first
        | exact first_fin hall hlt (by decide) hfin ((aE1 hr (by rw [oE1 (by first | exact .inl (by assumption) | exact .inr (by assumption))]; decide)).trans (oE1 (by first | exact .inl (by assumption) | exact .inr (by assumption))))
        | exact first_fin hall hlt (by decide) hfin ((aE1 hr (by rw [oE2 (by assumption) (by assumption) (by omega)]; decide)).trans (oE2 (by assumption) (by assumption) (by omega)))
        | exact first_fin hall hlt (by decide) hfin ((aE1 hr (by rw [oE3 (by assumption) (by assumption) (by omega) (by omega)]; decide)).trans (oE3 (by assumption) (by assumption) (by omega) (by omega)))
      have h8 : r.instead.length ≤ 8 := by omega
      have hrq := oE4 (r := r) (by assumption) (by assumption) (by omega) h8
      refine loop_at (fun k : Nat => [(6, vint .i64 k)]) (fun _ => []) (fun k => k ≤ r.instead.length ∧ ∀ j, j < k → insE r j = 0) (fun k => r.instead.length - k) 0 ⟨by omega, fun j hj => by omega⟩ (by repeat' (first | exact trivial | exact ⟨_, rfl, ALe.refl⟩ | refine And.intro ?_ ?_)) (by repeat' (first | exact trivial | exact rfl | refine And.intro ?_ ?_)) ?_
      intro k ⟨hk, hin⟩
      rcases Nat.lt_or_ge k r.instead.length with hkl | hkg
      · obtain ⟨s, hs⟩ := getE hkl
        have hcr2 : PCall Tryz.prog 106 [.pv (encStrs (r.instead.take k)), .pv (es s)] (fun a => a = vbool (aheadS r.instead k s)) := c_has (r.instead.take k) s (by rw [List.length_take]; omega)
        repeat' (first | (refine slice_to hk ?_) | refine o1 ?_ | refine o2 ?_ | refine k1 ?_ | refine k2 ?_ | refine k3 ?_ | refine k4 ?_ | refine k6 ?_ | refine k7 ?_ | refine And.intro ?_ ?_ | refine o3 ?_ | refine o4 ?_ | (intro h; first | exact Bool.noConfusion h | exact nz _ h | exact nl h | (simp at h; done) | (simp at h; first | (exfalso; omega) | skip) | skip) | (change retOk _ _ _ _; refine ret_pure rfl trivial ?_) | exact (by kernel_rfl : drawOk _ _ = true) | refine eqv_len_map ?_ | refine eqv_wrap (by omega) (by omega) ?_ | refine ⟨_, _, (by first | rfl | assumption), at_map (by assumption), ?_⟩ | (change vcFun _ _ _ _ _; refine call_eq rfl (by repeat' (first | trivial | refine And.intro ?_ ?_ | (show 0 + _ ≤ List.length _; simp))) ALeL.refl (c_rcode s) rfl ?_) | (change vcFunD _ _ _ _ _; refine callD_eq rfl (by repeat' (first | trivial | refine And.intro ?_ ?_ | (show 0 + _ ≤ List.length _; simp))) ALeL.refl (hcr2) rfl ?_) | fail)
        all_goals first
          | exact first_fin hall hlt (by decide) hfin (rq_bad hr hrq hin hkl (by decide) (nE1 hs (by assumption)))
          | exact first_fin hall hlt (by decide) hfin (rq_bad hr hrq hin hkl (by decide) (nE2 hs (by assumption) (sEq_iff.1 (by assumption))))
          | exact first_fin hall hlt (by decide) hfin (rq_bad hr hrq hin hkl (by decide) (nE3 hs (by assumption) (sEq_f.1 (by assumption)) (by assumption)))
          | exact ⟨k + 1, ⟨by omega, all_lt_succ hin (nE4 hs (by assumption) (sEq_f.1 (by assumption)) (by assumption))⟩, by omega, back [0, 1] rfl rfl ⟨rfl, rfl, trivial⟩ (by repeat' (first | exact trivial | exact rfl | refine And.intro ?_ ?_))⟩
      have h0 : rqE r = 0 := by rw [hrq, firstE_zero fun j hj => hin j (by omega)]
      have hfd := c_rfind l r.student r.course (by omega)
      have hsl2 : S.length + 1 ≤ i := hsl
      have hhs : PCall Tryz.prog 106 [.pv (encStrs (s0 :: S)), .pv (es r.student)] (fun a => a = vbool (memS (s0 :: S) r.student)) := c_has (s0 :: S) r.student (by simp only [List.length_cons] at hsl ⊢; omega)
      repeat' (first | ((change vcFun _ _ _ _ _; refine call_eq rfl (by repeat' (first | trivial | refine And.intro ?_ ?_ | (show 0 + _ ≤ List.length _; simp))) (le_strs1 (l := s0 :: S) (by simp)) hhs rfl ?_)) | (refine app_consm (f := fun s : Str => [es s]) r.student rfl ?_) | refine o1 ?_ | refine o2 ?_ | refine k1 ?_ | refine k2 ?_ | refine k3 ?_ | refine k6 ?_ | refine k7 ?_ | refine k8 ?_ | refine And.intro ?_ ?_ | (intro h; first | exact Bool.noConfusion h | exact nz _ h | exact nl h | (simp at h; done) | (simp at h; first | (exfalso; omega) | skip) | skip) | (change retOk _ _ _ _; refine ret_pure rfl trivial ?_) | (refine (?_ : srcLen _ = rowsLen _); rfl) | refine eqv_len_map ?_ | refine eqv_wrap (by omega) (by omega) ?_ | (refine (?_ : _ ≤ 140737488355328); simp [rowsLen] <;> omega) | (refine (?_ : _ ≤ 9223372036854775807); simp [rowsLen] <;> omega) | (refine (?_ : _ = rowsLen _); simp [rowsLen] <;> omega) | refine Or.inl ?_ | (change vcFun _ _ _ _ _; refine call_eq rfl (by repeat' (first | trivial | refine And.intro ?_ ?_ | (show 0 + _ ≤ List.length _; simp))) ALeL.refl (hfd) rfl ?_) | fail)
      all_goals first
        | exact first_fin hall hlt (by decide) hfin (aE2 hr h0 (fidx_lt hr (by omega)))
        | exact first_fin hall hlt (by decide) hfin (aE3 hr h0 (fidx_ge hr (by omega)) (by rw [hin0 (memS_t (by assumption))]; simp; omega))
        | exact first_fin hall hlt (by decide) hfin (aE3 hr h0 (fidx_ge hr (by omega)) (by rw [hnew (memS_f (by assumption))]; simp at *; omega))
        | (refine ⟨i + 1, ⟨hlt, all_lt_succ hall (aE4 hr h0 (fidx_ge hr (by omega)) (by rw [hin0 (memS_t (by assumption))]; simp; omega))⟩, by omega, ?_⟩
           rw [hin0 (memS_t (by assumption))]
           exact back [0] rfl rfl ⟨rfl, trivial⟩ (by repeat' (first | exact trivial | exact rfl | refine And.intro ?_ ?_)))
        | (refine ⟨i + 1, ⟨hlt, all_lt_succ hall (aE4 hr h0 (fidx_ge hr (by omega)) (by rw [hnew (memS_f (by assumption))]; simp at *; omega))⟩, by omega, ?_⟩
           rw [hnew (memS_f (by assumption))]
           exact back [3] rfl rfl ⟨rfl, trivial⟩ (by repeat' (first | exact trivial | exact rfl | refine And.intro ?_ ?_)))
  · generalize seenTo l i = S at *
    rcases S with _ | ⟨s0, S⟩
    all_goals dsimp only [slP, obP, nilA, List.map, List.length_cons, List.length_nil, List.length_map]
    all_goals repeat' (first | refine o1 ?_ | refine o2 ?_ | refine k1 ?_ | refine k2 ?_ | refine k3 ?_ | refine k7 ?_ | refine k8 ?_ | refine And.intro ?_ ?_ | (intro h; first | exact Bool.noConfusion h | exact nz _ h | exact nl h | (simp at h; done) | (simp at h; first | (exfalso; omega) | skip) | skip) | (change retOk _ _ _ _; refine ret_pure rfl trivial ?_) | refine eqv_len_map ?_ | fail)
    all_goals exact vi (by rw [hfin, firstE_zero fun j hj => hall j (by omega)])
end Go.Proofs.YtkbaecjnhmbeeaaGreat.Cw
/-
  Contracts: what a registry names is known.
-/
namespace Go.Proofs.YtkbaecjnhmbeeaaGreat.Cw
open Go.Cw Go.Proofs
set_option linter.unusedVariables false
set_option maxRecDepth 100000
set_option maxHeartbeats 1000000
noncomputable def staffB (st : List Lecturer) (l : List Str) : Bool := !(l.any fun s => !lcode st s)
noncomputable def teachB (cl : List Class) (s : Str) : Bool := cl.any fun c => pB (c.course = s)
noncomputable def taughtB (cl : List Class) (l : List Str) : Bool := !(l.any fun s => !teachB cl s)
noncomputable def askedB (cl : List Class) (q : Req) : Bool := taughtB cl [q.course] && taughtB cl q.instead
noncomputable def idxL (l : List Lecturer) (c : Str) : Int := idxB (fun y : Lecturer => pB (y.code = c)) l
noncomputable def idxC (l : List Class) (c : Str) : Int := idxB (fun y : Class => pB (y.code = c)) l
noncomputable def idxU (l : List Curri) (c : Str) : Int := idxB (fun y : Curri => pB (y.code = c)) l
noncomputable def idxR (l : List Room) (c : Str) : Int := idxB (fun y : Room => pB (y.code = c)) l
theorem idxL_neg {l : List Lecturer} {c : Str} : decide (idxL l c < 0) = !lcode l c := by
  have h : decide (idxL l c ≥ 0) = lcode l c := idxB_any
  rw [← h]
  by_cases g : idxL l c < 0
  · simp [g]
  · simp [g]; omega
structure RegL (r : Reg) : Prop where
  rooms : r.rooms.length ≤ 100000
  staff : r.staff.length ≤ 100000
  classes : r.classes.length ≤ 100000
  curris : r.curris.length ≤ 100000
theorem c_ix1 (x : Room) (c : Str) : PCall Tryz.prog 146 [ag x.row, .pv (.ia [es c])] (fun r => r = vbool (pB (x.code = c))) := by
  refine acall_of tok mixed 8 rfl (fn := Tryz.f146) (c := Tryz.f146.body.getD .skip) (by kernel_rfl) (by kernel_rfl) (by kernel_rfl) rfl 0 rfl ?_
  repeat' (first | refine o1 ?_ | refine o2 ?_ | refine k1 ?_ | refine k2 ?_ | refine k7 ?_ | (change retOk _ _ _ _; refine ret_pure rfl trivial ?_) | fail)
  exact congrArg vbool (pB_eq sEq_iff)
theorem c_ix2 (x : Lecturer) (c : Str) : PCall Tryz.prog 148 [ag x.row, .pv (.ia [es c])] (fun r => r = vbool (pB (x.code = c))) := by
  refine acall_of tok mixed 8 rfl (fn := Tryz.f148) (c := Tryz.f148.body.getD .skip) (by kernel_rfl) (by kernel_rfl) (by kernel_rfl) rfl 0 rfl ?_
  repeat' (first | refine o1 ?_ | refine o2 ?_ | refine k1 ?_ | refine k2 ?_ | refine k7 ?_ | (change retOk _ _ _ _; refine ret_pure rfl trivial ?_) | fail)
  exact congrArg vbool (pB_eq sEq_iff)
theorem c_ix3 (x : Class) (c : Str) : PCall Tryz.prog 149 [ag x.row, .pv (.ia [es c])] (fun r => r = vbool (pB (x.code = c))) := by
  refine acall_of tok mixed 8 rfl (fn := Tryz.f149) (c := Tryz.f149.body.getD .skip) (by kernel_rfl) (by kernel_rfl) (by kernel_rfl) rfl 0 rfl ?_
  repeat' (first | refine o1 ?_ | refine o2 ?_ | refine k1 ?_ | refine k2 ?_ | refine k7 ?_ | (change retOk _ _ _ _; refine ret_pure rfl trivial ?_) | fail)
  exact congrArg vbool (pB_eq sEq_iff)
theorem c_ix4 (x : Curri) (c : Str) : PCall Tryz.prog 150 [ag x.row, .pv (.ia [es c])] (fun r => r = vbool (pB (x.code = c))) := by
  refine acall_of tok mixed 8 rfl (fn := Tryz.f150) (c := Tryz.f150.body.getD .skip) (by kernel_rfl) (by kernel_rfl) (by kernel_rfl) rfl 0 rfl ?_
  repeat' (first | refine o1 ?_ | refine o2 ?_ | refine k1 ?_ | refine k2 ?_ | refine k7 ?_ | (change retOk _ _ _ _; refine ret_pure rfl trivial ?_) | fail)
  exact congrArg vbool (pB_eq sEq_iff)
noncomputable def indexR (r : Reg) (k : Int) (c : Str) : Int := if k = 1 then idxR r.rooms c else if k = 3 then idxL r.staff c else if k = 4 then idxC r.classes c else if k = 5 then idxU r.curris c else -1
theorem c_indexR (r : Reg) (k : Int) (c : Str) (hr : RegL r) : PCall Tryz.prog 73 [ag r.cells, vint .i64 k, .pv (es c)] (fun a => a = vint .i64 (indexR r k c)) := by
  refine acall_of tok mixed 32 rfl (fn := Tryz.f73) (c := Tryz.f73.body.getD .skip) (by kernel_rfl) (by kernel_rfl) (by kernel_rfl) rfl 0 rfl ?_
  repeat' (first | refine o1 ?_ | refine o2 ?_ | refine k1 ?_ | refine k2 ?_ | refine k3 ?_ | refine k4 ?_ | refine k6 ?_ | refine k7 ?_ | refine And.intro ?_ ?_ | (intro h; first | exact Bool.noConfusion h | exact nz _ h | exact nl h | (simp at h; done) | (simp at h; first | (exfalso; omega) | skip) | skip) | (change retOk _ _ _ _; refine ret_pure rfl trivial ?_) | (change vcFun _ _ _ _ _; refine call_eq rfl (by repeat' (first | trivial | refine And.intro ?_ ?_ | (show 0 + _ ≤ List.length _; simp))) ALeL.refl (c_index_room r.rooms 146 [.ia [es c]] (fun y : Room => pB (y.code = c)) hr.rooms (fun x _ => c_ix1 x c)) rfl ?_) | (change vcFun _ _ _ _ _; refine call_eq rfl (by repeat' (first | trivial | refine And.intro ?_ ?_ | (show 0 + _ ≤ List.length _; simp))) ALeL.refl (c_index_lect r.staff 148 [.ia [es c]] (fun y : Lecturer => pB (y.code = c)) hr.staff (fun x _ => c_ix2 x c)) rfl ?_) | (change vcFun _ _ _ _ _; refine call_eq rfl (by repeat' (first | trivial | refine And.intro ?_ ?_ | (show 0 + _ ≤ List.length _; simp))) ALeL.refl (c_index_class r.classes 149 [.ia [es c]] (fun y : Class => pB (y.code = c)) hr.classes (fun x _ => c_ix3 x c)) rfl ?_) | (change vcFun _ _ _ _ _; refine call_eq rfl (by repeat' (first | trivial | refine And.intro ?_ ?_ | (show 0 + _ ≤ List.length _; simp))) ALeL.refl (c_index_curri r.curris 150 [.ia [es c]] (fun y : Curri => pB (y.code = c)) hr.curris (fun x _ => c_ix4 x c)) rfl ?_) | fail)
  all_goals first
    | exact congrArg (vint .i64) (by unfold indexR; rw [if_pos (by assumption)]; rfl)
    | exact congrArg (vint .i64) (by unfold indexR; rw [if_neg (by assumption), if_pos (by assumption)]; rfl)
    | exact congrArg (vint .i64) (by unfold indexR; rw [if_neg (by assumption), if_neg (by assumption), if_pos (by assumption)]; rfl)
    | exact congrArg (vint .i64) (by unfold indexR; rw [if_neg (by assumption), if_neg (by assumption), if_neg (by assumption), if_pos (by assumption)]; rfl)
    | exact vi (by unfold indexR; rw [if_neg (by assumption), if_neg (by assumption), if_neg (by assumption), if_neg (by assumption)])
theorem indexR3 {r : Reg} {c : Str} : indexR r 3 c = idxL r.staff c := rfl
theorem c_staffed1 (r : Reg) (s : Str) (hr : RegL r) : PCall Tryz.prog 136 [.pv (es s), .pv (.ia r.cells)] (fun a => a = vbool (!lcode r.staff s)) := by
  refine acall_of tok mixed 8 rfl (fn := Tryz.f136) (c := Tryz.f136.body.getD .skip) (by kernel_rfl) (by kernel_rfl) (by kernel_rfl) rfl 0 rfl ?_
  repeat' (first | refine o1 ?_ | refine o2 ?_ | refine k1 ?_ | refine k2 ?_ | refine k7 ?_ | (change retOk _ _ _ _; refine ret_pure rfl trivial ?_) | (change vcFun _ _ _ _ _; refine call_eq rfl (by repeat' (first | trivial | refine And.intro ?_ ?_ | (show 0 + _ ≤ List.length _; simp))) ALeL.refl (c_indexR r 3 s hr) rfl ?_) | fail)
  exact congrArg vbool (by rw [indexR3, idxL_neg])
theorem c_staffed (r : Reg) (c : Class) (hr : RegL r) (hc : c.staff.length ≤ 100000) : PCall Tryz.prog 63 [ag r.cells, ag c.row] (fun a => a = vbool (staffB r.staff c.staff)) := by
  refine acall_of tok mixed 10 rfl (fn := Tryz.f63) (c := Tryz.f63.body.getD .skip) (by kernel_rfl) (by kernel_rfl) (by kernel_rfl) rfl 0 rfl ?_
  repeat' (first | refine o1 ?_ | refine o2 ?_ | refine k1 ?_ | refine k2 ?_ | refine k7 ?_ | (change retOk _ _ _ _; refine ret_pure rfl trivial ?_) | (change vcFun _ _ _ _ _; refine call_eq rfl (by repeat' (first | trivial | refine And.intro ?_ ?_ | (show 0 + _ ≤ List.length _; simp))) ALeL.refl (c_any_str c.staff 136 [.ia r.cells] (fun s => !lcode r.staff s) hc (fun s _ => c_staffed1 r s hr)) rfl ?_) | fail)
  rfl
theorem c_course0 (r : Reg) (s : Str) (hr : RegL r) : PCall Tryz.prog 139 [ag r.cells, .pv (es s)] (fun a => ∃ l : List Int, l.length ≤ 100000 ∧ (l = [] ↔ teachB r.classes s = false) ∧ Leq a (.pv (encInts l))) := by
  have hn := hr.classes
  refine acall_of tok mixed 26 rfl (fn := Tryz.f139) (c := Tryz.f139.body.getD .skip) (by kernel_rfl) (by kernel_rfl) (by kernel_rfl) rfl 0 rfl ?_
  repeat' (first | refine o1 ?_ | refine o2 ?_ | refine k1 ?_ | refine k2 ?_ | refine k4 ?_ | refine eqv_len_map ?_ | fail)
  refine loop_in (fun x : Nat × List Int => [(5, slP 1 1 (x.2.map fun n : Int => [ei n])), (11, vint .i64 x.1)]) (fun x => [some ⟨37, 14, false, .box (pvs r.cells)⟩, obP 3 1 (x.2.map fun n : Int => [ei n])]) (fun x => x.1 ≤ r.classes.length ∧ x.2.length ≤ x.1 ∧ (x.2 = [] ↔ teachB (r.classes.take x.1) s = false)) (fun x => r.classes.length - x.1) (0, []) ⟨Nat.zero_le _, Nat.zero_le _, by simp [teachB]⟩ ⟨?_, ?_⟩
  · exact back [0, 1] rfl rfl (by repeat' (first | exact trivial | exact rfl | refine And.intro ?_ ?_)) (by repeat' (first | exact trivial | exact rfl | refine And.intro ?_ ?_))
  rintro ⟨i, l⟩ ⟨hi, hll, hl⟩
  dsimp only at hi hll hl
  rcases Nat.lt_or_ge i r.classes.length with hlt | hge
  · obtain ⟨c, hc⟩ := getE hlt
    have hst : teachB (r.classes.take (i + 1)) s = (teachB (r.classes.take i) s || pB (c.course = s)) := by
      obtain ⟨h1, h2⟩ := List.getElem?_eq_some_iff.1 hc
      unfold teachB
      rw [List.take_succ_eq_append_getElem h1, List.any_append, h2]; simp
    have hyes : sEq c.course s = true → (teachB (r.classes.take (i + 1)) s = true) := fun h => by rw [hst, pB_t (sEq_iff.1 h)]; simp
    have hno : sEq c.course s = false → (teachB (r.classes.take (i + 1)) s = teachB (r.classes.take i) s) := fun h => by rw [hst, pB_f (sEq_f.1 h)]; simp
    rcases l with _ | ⟨l0, l⟩
    · dsimp only [slP, obP, nilA, Reg.cells, pvs, List.map, List.length_cons, List.length_nil, List.length_map]
      repeat' (first | refine o1 ?_ | refine o2 ?_ | refine k1 ?_ | refine k2 ?_ | refine k3 ?_ | refine k4 ?_ | refine k6 ?_ | refine And.intro ?_ ?_ | (intro h; first | exact Bool.noConfusion h | exact nz _ h | exact nl h | (simp at h; done) | (simp at h; first | (exfalso; omega) | skip) | skip) | (refine (?_ : srcLen _ = rowsLen _); rfl) | exact Nat.le_of_ble_eq_true rfl | exact (by kernel_rfl : drawOk _ _ = true) | refine eqv_wrap (by omega) (by omega) ?_ | refine ⟨_, _, (by first | rfl | assumption), at_map (by assumption), ?_⟩ | refine eqv_to _ (app_first rfl) (eqv_to 1 rfl ?_) | refine Or.inl ?_ | fail)
      all_goals first
        | exact ⟨(i + 1, [↑i]), ⟨hlt, Nat.succ_le_succ (Nat.zero_le _), by rw [hyes (by assumption)]; simp⟩, by dsimp only; omega, back [0, 4] rfl rfl ⟨rfl, rfl, trivial⟩ (by repeat' (first | exact trivial | exact rfl | refine And.intro ?_ ?_))⟩
        | exact ⟨(i + 1, []), ⟨hlt, Nat.zero_le _, by rw [hno (by assumption)]; exact hl⟩, by dsimp only; omega, back [0, 1] rfl rfl ⟨rfl, trivial⟩ (by repeat' (first | exact trivial | exact rfl | refine And.intro ?_ ?_))⟩
    · dsimp only [slP, obP, nilA, Reg.cells, pvs, List.map, List.length_cons, List.length_nil, List.length_map]
      have hll2 : l.length + 1 ≤ i := hll
      repeat' (first | (refine app_consm (f := fun n : Int => [ei n]) (i : Int) rfl ?_) | refine o1 ?_ | refine o2 ?_ | refine k1 ?_ | refine k2 ?_ | refine k3 ?_ | refine k4 ?_ | refine k6 ?_ | refine And.intro ?_ ?_ | (intro h; first | exact Bool.noConfusion h | exact nz _ h | exact nl h | (simp at h; done) | (simp at h; first | (exfalso; omega) | skip) | skip) | (refine (?_ : srcLen _ = rowsLen _); rfl) | exact (by kernel_rfl : drawOk _ _ = true) | refine eqv_wrap (by omega) (by omega) ?_ | refine ⟨_, _, (by first | rfl | assumption), at_map (by assumption), ?_⟩ | (refine (?_ : _ ≤ 140737488355328); simp [rowsLen] <;> omega) | (refine (?_ : _ ≤ 9223372036854775807); simp [rowsLen] <;> omega) | (refine (?_ : _ = rowsLen _); simp [rowsLen] <;> omega) | refine Or.inl ?_ | fail)
      all_goals first
        | exact ⟨(i + 1, l0 :: (l ++ [(i : Int)])), ⟨hlt, (by show (l0 :: (l ++ [(i : Int)])).length ≤ i + 1; simp; omega), by rw [hyes (by assumption)]; simp⟩, by dsimp only; omega, back [0, 4] rfl rfl ⟨rfl, rfl, trivial⟩ (by repeat' (first | exact trivial | exact rfl | refine And.intro ?_ ?_))⟩
        | exact ⟨(i + 1, l0 :: l), ⟨hlt, (by show (l0 :: l).length ≤ i + 1; simp only [List.length_cons]; omega), by rw [hno (by assumption)]; exact hl⟩, by dsimp only; omega, back [0, 1] rfl rfl ⟨rfl, rfl, trivial⟩ (by repeat' (first | exact trivial | exact rfl | refine And.intro ?_ ?_))⟩
  · rw [List.take_of_length_le hge] at hl
    rcases l with _ | ⟨l0, l⟩
    · dsimp only [slP, obP, nilA, Reg.cells, pvs, List.map, List.length_cons, List.length_nil, List.length_map]
      repeat' (first | refine o1 ?_ | refine o2 ?_ | refine k1 ?_ | refine k2 ?_ | refine k3 ?_ | refine k7 ?_ | refine k8 ?_ | refine And.intro ?_ ?_ | (intro h; first | exact Bool.noConfusion h | exact nz _ h | exact nl h | (simp at h; done) | (simp at h; first | (exfalso; omega) | skip) | skip) | (change retOk _ _ _ _; refine ret_pure rfl trivial ?_) | fail)
      all_goals first
        | exact ⟨[], Nat.zero_le _, hl, ⟨ALe.pv PLe.nil⟩⟩
    · dsimp only [slP, obP, nilA, Reg.cells, pvs, List.map, List.length_cons, List.length_nil, List.length_map]
      repeat' (first | refine o1 ?_ | refine o2 ?_ | refine k1 ?_ | refine k2 ?_ | refine k3 ?_ | refine k7 ?_ | refine k8 ?_ | refine And.intro ?_ ?_ | (intro h; first | exact Bool.noConfusion h | exact nz _ h | exact nl h | (simp at h; done) | (simp at h; first | (exfalso; omega) | skip) | skip) | fail)
      all_goals first
        | exact ret_pure rfl (by repeat' (first | (show 0 + _ ≤ List.length _; simp))) ⟨l0 :: l, by omega, hl, ⟨ALe.pv (whole_le (f := fun n : Int => [ei n]) (l := l0 :: l) (by simp))⟩⟩
theorem c_course (r : Reg) (s : Str) (hr : RegL r) : PCall Tryz.prog 139 [ag r.cells, .pv (es s)] (fun a => ∃ l : List Int, l.length ≤ 100000 ∧ (l = [] ↔ teachB r.classes s = false) ∧ a = .pv (encInts l)) :=
  (c_course0 r s hr).weak fun a ⟨l, h1, h2, h3⟩ => ⟨_, h3.le, l, h1, h2, rfl⟩
theorem c_taught1 (r : Reg) (s : Str) (hr : RegL r) : PCall Tryz.prog 138 [.pv (es s), .pv (.ia r.cells)] (fun a => a = vbool (!teachB r.classes s)) := by
  refine acall_of tok mixed 9 rfl (fn := Tryz.f138) (c := Tryz.f138.body.getD .skip) (by kernel_rfl) (by kernel_rfl) (by kernel_rfl) rfl 0 rfl ?_
  repeat' (first | ((change vcFun _ _ _ _ _; refine call_frz rfl (by repeat' (first | trivial | refine And.intro ?_ ?_ | (show 0 + _ ≤ List.length _; simp))) ALeL.refl (c_course r s hr) ?_; rintro a ⟨l, hl1, hl2, rfl⟩)) | refine o1 ?_ | refine o2 ?_ | refine k1 ?_ | refine k2 ?_ | refine k7 ?_ | (change retOk _ _ _ _; refine ret_pure rfl trivial ?_) | refine eqv_len_map ?_ | fail)
  all_goals first
    | exact congrArg vbool (by cases hb : teachB r.classes s <;> rw [hb] at hl2 <;> simp at hl2 <;> simp [hl2])
theorem c_taught (r : Reg) (l : List Str) (hr : RegL r) (hl : l.length ≤ 100000) : PCall Tryz.prog 66 [ag r.cells, .pv (encStrs l)] (fun a => a = vbool (taughtB r.classes l)) := by
  refine acall_of tok mixed 9 rfl (fn := Tryz.f66) (c := Tryz.f66.body.getD .skip) (by kernel_rfl) (by kernel_rfl) (by kernel_rfl) rfl 0 rfl ?_
  repeat' (first | refine o1 ?_ | refine o2 ?_ | refine k1 ?_ | refine k2 ?_ | refine k7 ?_ | (change retOk _ _ _ _; refine ret_pure rfl trivial ?_) | (change vcFun _ _ _ _ _; refine call_eq rfl (by repeat' (first | trivial | refine And.intro ?_ ?_ | (show 0 + _ ≤ List.length _; simp))) ALeL.refl (c_any_str l 138 [.ia r.cells] (fun s => !teachB r.classes s) hl (fun s _ => c_taught1 r s hr)) rfl ?_) | fail)
  rfl
theorem c_asked (r : Reg) (q : Req) (hr : RegL r) (hl : q.instead.length ≤ 100000) : PCall Tryz.prog 69 [ag r.cells, ag q.row] (fun a => a = vbool (askedB r.classes q)) := by
  refine acall_of tok mixed 16 rfl (fn := Tryz.f69) (c := Tryz.f69.body.getD .skip) (by kernel_rfl) (by kernel_rfl) (by kernel_rfl) rfl 0 rfl ?_
  repeat' (first | refine o1 ?_ | refine o2 ?_ | refine k1 ?_ | refine k2 ?_ | refine k7 ?_ | refine And.intro ?_ ?_ | (intro h; first | exact Bool.noConfusion h | exact nz _ h | exact nl h | (simp at h; done) | (simp at h; first | (exfalso; omega) | skip) | skip) | (change retOk _ _ _ _; refine ret_pure rfl trivial ?_) | (change vcFun _ _ _ _ _; refine call_eq rfl (by repeat' (first | trivial | refine And.intro ?_ ?_ | (show 0 + _ ≤ List.length _; simp))) ALeL.refl (c_taught r [q.course] hr (by simp)) rfl ?_) | (change vcFun _ _ _ _ _; refine call_eq rfl (by repeat' (first | trivial | refine And.intro ?_ ?_ | (show 0 + _ ≤ List.length _; simp))) ALeL.refl (c_taught r q.instead hr hl) rfl ?_) | fail)
  all_goals first
    | exact congrArg vbool (by unfold askedB; simp [*])
/-! The reference. -/
theorem c_rstaffed (c : Class) (l : List Lecturer) (hc : c.staff.length ≤ 100000) (hl : l.length ≤ 100000) : PCall Tryz.prog 91 [ag c.row, .pv (.sl 2 (l.map Lecturer.row))] (fun a => a = vbool (staffB l c.staff)) := by
  refine acall_of tok mixed 21 rfl (fn := Tryz.f91) (c := Tryz.f91.body.getD .skip) (by kernel_rfl) (by kernel_rfl) (by kernel_rfl) rfl 0 rfl ?_
  repeat' (first | refine o1 ?_ | refine o2 ?_ | refine k1 ?_ | refine k2 ?_ | refine k4 ?_ | fail)
  refine loop_at (fun i : Nat => [(5, vint .i64 i)]) (fun _ => []) (fun i => i ≤ c.staff.length ∧ ∀ j, j < i → ∀ s, c.staff[j]? = some s → lcode l s = true) (fun i => c.staff.length - i) 0 ⟨by omega, fun j hj => by omega⟩ (by repeat' (first | exact trivial | exact ⟨_, rfl, ALe.refl⟩ | refine And.intro ?_ ?_)) (by repeat' (first | exact trivial | exact rfl | refine And.intro ?_ ?_)) ?_
  intro i ⟨hi, hall⟩
  rcases Nat.lt_or_ge i c.staff.length with hlt | hge
  · obtain ⟨s, hs⟩ := getE hlt
    have hidx : PCall Tryz.prog 182 [.pv (.sl 2 (l.map Lecturer.row)), .pv (es s)] (fun r => r = vint .i64 (idxL l s)) := c_rlidx l s hl
    have hneg := @idxL_neg l s
    repeat' (first | refine o1 ?_ | refine o2 ?_ | refine k1 ?_ | refine k2 ?_ | refine k3 ?_ | refine k4 ?_ | refine k6 ?_ | refine k7 ?_ | refine And.intro ?_ ?_ | (intro h; first | exact Bool.noConfusion h | exact nz _ h | exact nl h | (simp at h; done) | (simp at h; first | (exfalso; omega) | skip) | skip) | (change retOk _ _ _ _; refine ret_pure rfl trivial ?_) | refine eqv_len_map ?_ | refine eqv_wrap (by omega) (by omega) ?_ | refine ⟨_, _, (by first | rfl | assumption), at_map (by assumption), ?_⟩ | (change vcFun _ _ _ _ _; refine call_eq rfl (by repeat' (first | trivial | refine And.intro ?_ ?_ | (show 0 + _ ≤ List.length _; simp))) ALeL.refl (hidx) rfl ?_) | fail)
    all_goals first
      | exact vb (by
          unfold staffB
          rw [Bool.not_eq_false']
          exact List.any_eq_true.2 ⟨s, List.mem_of_getElem? hs, by rw [← hneg]; simpa using ‹idxL l s < 0›⟩)
      | exact ⟨i + 1, ⟨by omega, all_lt_succ hall fun s' h' => by rw [hs] at h'; cases h'; simpa using hneg.symm.trans (decide_eq_false (by omega))⟩, by omega, back [0] rfl rfl ⟨rfl, trivial⟩ (by repeat' (first | exact trivial | exact rfl | refine And.intro ?_ ?_))⟩
  · repeat' (first | refine o1 ?_ | refine o2 ?_ | refine k1 ?_ | refine k2 ?_ | refine k3 ?_ | refine k7 ?_ | refine k8 ?_ | refine And.intro ?_ ?_ | (intro h; first | exact Bool.noConfusion h | exact nz _ h | exact nl h | (simp at h; done) | (simp at h; first | (exfalso; omega) | skip) | skip) | (change retOk _ _ _ _; refine ret_pure rfl trivial ?_) | refine eqv_len_map ?_ | fail)
    exact vb (by
      unfold staffB
      rw [Bool.not_eq_true']
      exact List.any_eq_false.2 fun s hm => by
        obtain ⟨j, hj⟩ := List.getElem?_of_mem hm
        simp [hall j (by have := (List.getElem?_eq_some_iff.1 hj).1; omega) s hj])
theorem c_rteaches (l : List Class) (s : Str) (hl : l.length ≤ 100000) : PCall Tryz.prog 187 [.pv (.sl 9 (l.map Class.row)), .pv (es s)] (fun a => a = vbool (teachB l s)) := by
  refine acall_of tok mixed 19 rfl (fn := Tryz.f187) (c := Tryz.f187.body.getD .skip) (by kernel_rfl) (by kernel_rfl) (by kernel_rfl) rfl 0 rfl ?_
  repeat' (first | refine o1 ?_ | refine o2 ?_ | refine k1 ?_ | refine k2 ?_ | refine k4 ?_ | fail)
  refine loop_at (fun i : Nat => [(5, vint .i64 i)]) (fun _ => []) (fun i => i ≤ l.length ∧ ∀ j, j < i → ∀ c, l[j]? = some c → ¬ c.course = s) (fun i => l.length - i) 0 ⟨by omega, fun j hj => by omega⟩ (by repeat' (first | exact trivial | exact ⟨_, rfl, ALe.refl⟩ | refine And.intro ?_ ?_)) (by repeat' (first | exact trivial)) ?_
  intro i ⟨hi, hall⟩
  rcases Nat.lt_or_ge i l.length with hlt | hge
  · obtain ⟨c, hc⟩ := getE hlt
    repeat' (first | refine o1 ?_ | refine o2 ?_ | refine k1 ?_ | refine k2 ?_ | refine k3 ?_ | refine k4 ?_ | refine k6 ?_ | refine k7 ?_ | refine And.intro ?_ ?_ | (intro h; first | exact Bool.noConfusion h | exact nz _ h | exact nl h | (simp at h; done) | (simp at h; first | (exfalso; omega) | skip) | skip) | (change retOk _ _ _ _; refine ret_pure rfl trivial ?_) | refine eqv_len_map ?_ | refine eqv_wrap (by omega) (by omega) ?_ | refine ⟨_, _, (by first | rfl | assumption), at_map (by assumption), ?_⟩ | fail)
    all_goals first
      | exact vb (List.any_eq_true.2 ⟨c, List.mem_of_getElem? hc, pB_t (sEq_iff.1 (by assumption))⟩)
      | exact ⟨i + 1, ⟨by omega, all_lt_succ hall fun c' h' => by rw [hc] at h'; cases h'; exact sEq_f.1 (by assumption)⟩, by omega, back [] rfl rfl trivial (by repeat' (first | exact trivial | exact rfl | refine And.intro ?_ ?_))⟩
  · repeat' (first | refine o1 ?_ | refine o2 ?_ | refine k1 ?_ | refine k2 ?_ | refine k3 ?_ | refine k7 ?_ | refine k8 ?_ | refine And.intro ?_ ?_ | (intro h; first | exact Bool.noConfusion h | exact nz _ h | exact nl h | (simp at h; done) | (simp at h; first | (exfalso; omega) | skip) | skip) | (change retOk _ _ _ _; refine ret_pure rfl trivial ?_) | refine eqv_len_map ?_ | fail)
    exact vb (List.any_eq_false.2 fun c hm => by
      obtain ⟨j, hj⟩ := List.getElem?_of_mem hm
      simp [hall j (by have := (List.getElem?_eq_some_iff.1 hj).1; omega) c hj])
theorem c_rtaught (l : List Str) (cl : List Class) (hl : l.length ≤ 100000) (hc : cl.length ≤ 100000) : PCall Tryz.prog 92 [.pv (encStrs l), .pv (.sl 9 (cl.map Class.row))] (fun a => a = vbool (taughtB cl l)) := by
  refine acall_of tok mixed 19 rfl (fn := Tryz.f92) (c := Tryz.f92.body.getD .skip) (by kernel_rfl) (by kernel_rfl) (by kernel_rfl) rfl 0 rfl ?_
  repeat' (first | refine o1 ?_ | refine o2 ?_ | refine k1 ?_ | refine k2 ?_ | refine k4 ?_ | fail)
  refine loop_at (fun i : Nat => [(5, vint .i64 i)]) (fun _ => []) (fun i => i ≤ l.length ∧ ∀ j, j < i → ∀ s, l[j]? = some s → teachB cl s = true) (fun i => l.length - i) 0 ⟨by omega, fun j hj => by omega⟩ (by repeat' (first | exact trivial | exact ⟨_, rfl, ALe.refl⟩ | refine And.intro ?_ ?_)) (by repeat' (first | exact trivial)) ?_
  intro i ⟨hi, hall⟩
  rcases Nat.lt_or_ge i l.length with hlt | hge
  · obtain ⟨s, hs⟩ := getE hlt
    have ht := c_rteaches cl s hc
    repeat' (first | refine o1 ?_ | refine o2 ?_ | refine k1 ?_ | refine k2 ?_ | refine k3 ?_ | refine k4 ?_ | refine k6 ?_ | refine k7 ?_ | refine And.intro ?_ ?_ | (intro h; first | exact Bool.noConfusion h | exact nz _ h | exact nl h | (simp at h; done) | (simp at h; first | (exfalso; omega) | skip) | skip) | (change retOk _ _ _ _; refine ret_pure rfl trivial ?_) | refine eqv_len_map ?_ | refine eqv_wrap (by omega) (by omega) ?_ | refine ⟨_, _, (by first | rfl | assumption), at_map (by assumption), ?_⟩ | (change vcFun _ _ _ _ _; refine call_eq rfl (by repeat' (first | trivial | refine And.intro ?_ ?_ | (show 0 + _ ≤ List.length _; simp))) ALeL.refl (ht) rfl ?_) | fail)
    all_goals first
      | exact vb (by
          unfold taughtB
          rw [Bool.not_eq_false']
          exact List.any_eq_true.2 ⟨s, List.mem_of_getElem? hs, by simp [*]⟩)
      | exact ⟨i + 1, ⟨by omega, all_lt_succ hall fun s' h' => by rw [hs] at h'; cases h'; assumption⟩, by omega, back [] rfl rfl trivial (by repeat' (first | exact trivial | exact rfl | refine And.intro ?_ ?_))⟩
  · repeat' (first | refine o1 ?_ | refine o2 ?_ | refine k1 ?_ | refine k2 ?_ | refine k3 ?_ | refine k7 ?_ | refine k8 ?_ | refine And.intro ?_ ?_ | (intro h; first | exact Bool.noConfusion h | exact nz _ h | exact nl h | (simp at h; done) | (simp at h; first | (exfalso; omega) | skip) | skip) | (change retOk _ _ _ _; refine ret_pure rfl trivial ?_) | refine eqv_len_map ?_ | fail)
    exact vb (by
      unfold taughtB
      rw [Bool.not_eq_true']
      exact List.any_eq_false.2 fun s hm => by
        obtain ⟨j, hj⟩ := List.getElem?_of_mem hm
        simp [hall j (by have := (List.getElem?_eq_some_iff.1 hj).1; omega) s hj])
end Go.Proofs.YtkbaecjnhmbeeaaGreat.Cw
/-
  Contracts: ways between buildings.
-/
namespace Go.Proofs.YtkbaecjnhmbeeaaGreat.Cw
open Go.Cw Go.Proofs
set_option linter.unusedVariables false
set_option maxRecDepth 100000
set_option maxHeartbeats 1000000
open Classical in
noncomputable def bldE (l : List Str) (i : Nat) : Int := match l[i]? with
  | none => 0
  | some b => if ¬ codeP b then 10 else if aheadS l i b then 11 else 0
section
variable {l : List Str} {i : Nat} {s : Str} (hs : l[i]? = some s)
include hs
theorem bE1 (h : ¬ codeP s) : bldE l i = 10 := by unfold bldE; rw [hs]; dsimp only; rw [if_pos h]
theorem bE2 (h0 : codeP s) (h : aheadS l i s = true) : bldE l i = 11 := by unfold bldE; rw [hs]; dsimp only; rw [if_neg (by simp [h0]), if_pos h]
theorem bE3 (h0 : codeP s) (h : aheadS l i s = false) : bldE l i = 0 := by unfold bldE; rw [hs]; dsimp only; rw [if_neg (by simp [h0]), if_neg (by simp [h])]
end
def squareP (t : Travel) : Prop := t.slots.length = t.blds.length ∧ ∀ row ∈ t.slots, row.length = t.blds.length
def cellP (t : Travel) (i k : Nat) : Prop := ∀ row x, t.slots[i]? = some row → row[k]? = some x → (-1 ≤ x ∧ x ≤ 24) ∧ (i = k → x = 0) ∧ ∀ row2 y, t.slots[k]? = some row2 → row2[i]? = some y → x = y
def tableP (t : Travel) : Prop := ∀ i, i < t.blds.length → ∀ k, k < t.blds.length → cellP t i k
open Classical in
noncomputable def travE (t : Travel) : Int := if 8 < t.blds.length then 2 else if firstE (bldE t.blds) t.blds.length ≠ 0 then firstE (bldE t.blds) t.blds.length else if ¬ squareP t then 1 else if ¬ tableP t then 3 else 0
section
variable {t : Travel}
theorem wE1 (h : 8 < t.blds.length) : travE t = 2 := by unfold travE; rw [if_pos h]
variable (h1 : t.blds.length ≤ 8)
include h1
theorem wE2 {i : Nat} {e : Int} (hall : ∀ j, j < i → bldE t.blds j = 0) (hi : i < t.blds.length) (he : e ≠ 0) (h : bldE t.blds i = e) : travE t = e := by
  have := firstE_at hall (by rw [h]; exact he) hi
  unfold travE; rw [if_neg (by omega), this, h, if_pos he]
variable (h2 : firstE (bldE t.blds) t.blds.length = 0)
include h2
theorem wE3 (h : ¬ squareP t) : travE t = 1 := by unfold travE; rw [if_neg (by omega), if_neg (by simp [h2]), if_pos h]
variable (h3 : squareP t)
include h3
theorem wE4 (h : ¬ tableP t) : travE t = 3 := by unfold travE; rw [if_neg (by omega), if_neg (by simp [h2]), if_neg (by simp [h3]), if_pos h]
theorem wE5 (h : tableP t) : travE t = 0 := by unfold travE; rw [if_neg (by omega), if_neg (by simp [h2]), if_neg (by simp [h3]), if_neg (by simp [h])]
end
theorem c_rowlen (row : List Int) (n : Nat) : PCall Tryz.prog 128 [.pv (encInts row), .pv (.ia [ei n])] (fun r => r = vbool (pB (row.length ≠ n))) := by
  refine acall_of tok mixed 8 rfl (fn := Tryz.f128) (c := Tryz.f128.body.getD .skip) (by kernel_rfl) (by kernel_rfl) (by kernel_rfl) rfl 0 rfl ?_
  repeat' (first | refine o1 ?_ | refine o2 ?_ | refine k1 ?_ | refine k2 ?_ | refine k7 ?_ | (change retOk _ _ _ _; refine ret_pure rfl trivial ?_) | refine eqv_len_map ?_ | fail)
  exact congrArg vbool (pB_eq (by simp; omega))
theorem c_place (l : List Str) (s : Str) (hl : l.length ≤ 100000) : PCall Tryz.prog 181 [.pv (encStrs l), .pv (es s)] (fun r => r = vint .i64 (idxS l s)) := by
  refine acall_of tok mixed 19 rfl (fn := Tryz.f181) (c := Tryz.f181.body.getD .skip) (by kernel_rfl) (by kernel_rfl) (by kernel_rfl) rfl 0 rfl ?_
  repeat' (first | refine o1 ?_ | refine o2 ?_ | refine k1 ?_ | refine k2 ?_ | refine k4 ?_ | fail)
  refine loop_at (fun i : Nat => [(5, vint .i64 i)]) (fun _ => []) (fun i => i ≤ l.length ∧ ∀ j, j < i → ∀ q, l[j]? = some q → pB (q = s) = false) (fun i => l.length - i) 0 ⟨by omega, fun j hj => by omega⟩ (by repeat' (first | exact trivial | exact ⟨_, rfl, ALe.refl⟩ | refine And.intro ?_ ?_)) (by repeat' (first | exact trivial)) ?_
  intro i ⟨hi, hall⟩
  rcases Nat.lt_or_ge i l.length with hlt | hge
  · obtain ⟨q, hq⟩ := getE hlt
    repeat' (first | refine o1 ?_ | refine o2 ?_ | refine k1 ?_ | refine k2 ?_ | refine k3 ?_ | refine k4 ?_ | refine k6 ?_ | refine k7 ?_ | refine And.intro ?_ ?_ | (intro h; first | exact Bool.noConfusion h | exact nz _ h | exact nl h | (simp at h; done) | (simp at h; first | (exfalso; omega) | skip) | skip) | (change retOk _ _ _ _; refine ret_pure rfl trivial ?_) | refine eqv_len_map ?_ | refine eqv_wrap (by omega) (by omega) ?_ | refine ⟨_, _, (by first | rfl | assumption), at_map (by assumption), ?_⟩ | fail)
    all_goals first
      | exact congrArg (vint .i64) (idxB_at hall hq (pB_t (sEq_iff.1 (by assumption)))).symm
      | exact ⟨i + 1, ⟨by omega, all_lt_succ hall fun q' h' => by rw [hq] at h'; cases h'; exact pB_f fun e => sEq_f.1 (by assumption) e⟩, by omega, back [] rfl rfl trivial (by repeat' (first | exact trivial | exact rfl | refine And.intro ?_ ?_))⟩
  · repeat' (first | refine o1 ?_ | refine o2 ?_ | refine k1 ?_ | refine k2 ?_ | refine k3 ?_ | refine k7 ?_ | refine k8 ?_ | refine And.intro ?_ ?_ | (intro h; first | exact Bool.noConfusion h | exact nz _ h | exact nl h | (simp at h; done) | (simp at h; first | (exfalso; omega) | skip) | skip) | (change retOk _ _ _ _; refine ret_pure rfl trivial ?_) | refine eqv_len_map ?_ | fail)
    exact congrArg (vint .i64) (idxB_none fun j hj => hall j (by omega)).symm
theorem idxS_lt {l : List Str} {i : Nat} {s : Str} (hs : l[i]? = some s) (h : idxS l s < i) : aheadS l i s = true := by
  have := idxB_lt (p := fun q : Str => pB (q = s)) hs (pB_t rfl) h
  obtain ⟨y, hy, e⟩ := List.any_eq_true.1 this
  exact pB_t (by have e : y = s := by simpa using e
                 rw [← e]; exact hy)
theorem idxS_ge {l : List Str} {i : Nat} {s : Str} (hs : l[i]? = some s) (h : (i : Int) ≤ idxS l s) : aheadS l i s = false := by
  have := idxB_ge (p := fun q : Str => pB (q = s)) hs (pB_t rfl) h
  refine pB_f fun hm => ?_
  have := List.any_eq_false.1 this s hm
  simp at this
noncomputable def badRow (l : List (List Int)) (n : Nat) : Bool := l.any fun row => pB (row.length ≠ n)
theorem badRow_t {l : List (List Int)} {n : Nat} (h : badRow l n = true) : ¬ ∀ row ∈ l, row.length = n := fun hall => by
  obtain ⟨y, hy, e⟩ := List.any_eq_true.1 h
  simp [hall y hy] at e
theorem badRow_f {l : List (List Int)} {n : Nat} (h : badRow l n = false) : ∀ row ∈ l, row.length = n := fun row hr => by
  have := List.any_eq_false.1 h row hr
  simpa using this
theorem cell_bad {t : Travel} {i k : Nat} {row row2 : List Int} {x y : Int} (hi : i < t.blds.length) (hk : k < t.blds.length) (h1 : t.slots[i]? = some row) (h2 : row[k]? = some x) (h3 : t.slots[k]? = some row2) (h4 : row2[i]? = some y) (h : x < -1 ∨ 24 < x ∨ (i = k ∧ x ≠ 0) ∨ x ≠ y) : ¬ tableP t := fun hall => by
  obtain ⟨a, b, c⟩ := hall i hi k hk row x h1 h2
  have := c row2 y h3 h4
  rcases h with h | h | ⟨e, h⟩ | h
  · omega
  · omega
  · exact h (b e)
  · exact h this
theorem cell_ok {t : Travel} {i k : Nat} {row row2 : List Int} {x y : Int} (h1 : t.slots[i]? = some row) (h2 : row[k]? = some x) (h3 : t.slots[k]? = some row2) (h4 : row2[i]? = some y) (a : -1 ≤ x ∧ x ≤ 24) (b : i = k → x = 0) (c : x = y) : cellP t i k := fun row' x' g1 g2 => by
  rw [h1] at g1; cases g1
  rw [h2] at g2; cases g2
  exact ⟨a, b, fun r' y' g3 g4 => by rw [h3] at g3; cases g3; rw [h4] at g4; cases g4; exact c⟩
theorem f_row {l : List (List Int)} {i : Nat} {row : List Int} (h : l[i]? = some row) : (l.map intsRow)[i]? = some (intsRow row) := at_map h
theorem f_int {l : List Int} {i : Nat} {x : Int} (h : l[i]? = some x) : (l.map fun n : Int => [ei n])[i]? = some [ei x] := at_map (f := fun n : Int => [ei n]) h
theorem c_travel (t : Travel) : PCall Tryz.prog 52 [ag t.row] (fun r => r = vint .i64 (travE t)) := by
  refine acall_of tok mixed 90 rfl (fn := Tryz.f52) (c := Tryz.f52.body.getD .skip) (by kernel_rfl) (by kernel_rfl) (by kernel_rfl) rfl 0 rfl ?_
  repeat' (first | refine o1 ?_ | refine o2 ?_ | refine k1 ?_ | refine k2 ?_ | refine k3 ?_ | refine k4 ?_ | refine k6 ?_ | refine k7 ?_ | refine And.intro ?_ ?_ | (intro h; first | exact Bool.noConfusion h | exact nz _ h | exact nl h | (simp at h; done) | (simp at h; first | (exfalso; omega) | skip) | skip) | (change retOk _ _ _ _; refine ret_pure rfl trivial ?_) | exact (by kernel_rfl : drawOk _ _ = true) | refine eqv_len_map ?_ | fail)
  · exact vi (wE1 (by omega))
  have h1 : t.blds.length ≤ 8 := by omega
  refine loop_at (fun i : Nat => [(18, vint .i64 i)]) (fun _ => []) (fun i => i ≤ t.blds.length ∧ ∀ j, j < i → bldE t.blds j = 0) (fun i => t.blds.length - i) 0 ⟨by omega, fun j hj => by omega⟩ (by repeat' (first | exact trivial | exact ⟨_, rfl, ALe.refl⟩ | refine And.intro ?_ ?_)) (by repeat' (first | exact trivial | exact rfl | refine And.intro ?_ ?_)) ?_
  intro i ⟨hi, hall⟩
  rcases Nat.lt_or_ge i t.blds.length with hlt | hge
  · obtain ⟨s, hs⟩ := getE hlt
    have hcc : PCall Tryz.prog 126 [.pv (encStrs (t.blds.take i)), .pv (es s)] (fun a => a = vbool (aheadS t.blds i s)) := c_contains (t.blds.take i) s (by rw [List.length_take]; omega)
    repeat' (first | (refine slice_to hi ?_) | refine o1 ?_ | refine o2 ?_ | refine k1 ?_ | refine k2 ?_ | refine k3 ?_ | refine k4 ?_ | refine k6 ?_ | refine k7 ?_ | refine And.intro ?_ ?_ | (intro h; first | exact Bool.noConfusion h | exact nz _ h | exact nl h | (simp at h; done) | (simp at h; first | (exfalso; omega) | skip) | skip) | (change retOk _ _ _ _; refine ret_pure rfl trivial ?_) | refine eqv_wrap (by omega) (by omega) ?_ | refine ⟨_, _, (by first | rfl | assumption), at_map (by assumption), ?_⟩ | (change vcFun _ _ _ _ _; refine call_eq rfl (by repeat' (first | trivial | refine And.intro ?_ ?_ | (show 0 + _ ≤ List.length _; simp))) ALeL.refl (c_code s) rfl ?_) | (change vcFun _ _ _ _ _; refine call_eq rfl (by repeat' (first | trivial | refine And.intro ?_ ?_ | (show 0 + _ ≤ List.length _; simp))) ALeL.refl (hcc) rfl ?_) | fail)
    all_goals first
      | exact vi (wE2 h1 hall hlt (by decide) (bE1 hs (by assumption)))
      | exact vi (wE2 h1 hall hlt (by decide) (bE2 hs (by assumption) (by assumption)))
      | exact vi (wE2 h1 hall hlt (by decide) (bE2 hs (by assumption) (idxS_lt hs (by omega))))
      | exact ⟨i + 1, ⟨by omega, all_lt_succ hall (bE3 hs (by assumption) (by first | assumption | exact idxS_ge hs (by omega)))⟩, by omega, back [0, 1] rfl rfl ⟨rfl, rfl, trivial⟩ (by repeat' (first | exact trivial | exact rfl | refine And.intro ?_ ?_))⟩
  have h2 : firstE (bldE t.blds) t.blds.length = 0 := firstE_zero fun j hj => hall j (by omega)
  by_cases hln : t.slots.length = t.blds.length
  case neg =>
    repeat' (first | refine o1 ?_ | refine o2 ?_ | refine k1 ?_ | refine k2 ?_ | refine k3 ?_ | refine k7 ?_ | refine k8 ?_ | refine And.intro ?_ ?_ | (intro h; first | exact Bool.noConfusion h | exact nz _ h | exact nl h | (simp at h; done) | (simp at h; first | (exfalso; omega) | skip) | skip) | (change retOk _ _ _ _; refine ret_pure rfl trivial ?_) | refine eqv_len_map ?_ | fail)
    all_goals exact vi (wE3 h1 h2 (fun h => hln h.1))
  have hany : PCall Tryz.prog 127 [.pv (.sl 1 (t.slots.map intsRow)), .pv (.fn 128 [.ia [ei t.blds.length]])] (fun r => r = vbool (badRow t.slots t.blds.length)) := c_any_ints t.slots 128 [.ia [ei t.blds.length]] (fun row => pB (row.length ≠ t.blds.length)) (by omega) (fun row _ => c_rowlen row t.blds.length)
  repeat' (first | refine o1 ?_ | refine o2 ?_ | refine k1 ?_ | refine k2 ?_ | refine k3 ?_ | refine k4 ?_ | refine k6 ?_ | refine k7 ?_ | refine k8 ?_ | refine And.intro ?_ ?_ | (intro h; first | exact Bool.noConfusion h | exact nz _ h | exact nl h | (simp at h; done) | (simp at h; first | (exfalso; omega) | skip) | skip) | (change retOk _ _ _ _; refine ret_pure rfl trivial ?_) | refine eqv_len_map ?_ | (change vcFun _ _ _ _ _; refine call_eq rfl (by repeat' (first | trivial | refine And.intro ?_ ?_ | (show 0 + _ ≤ List.length _; simp))) ALeL.refl (hany) rfl ?_) | fail)
  all_goals try first
    | exact vi (wE3 h1 h2 (fun h => badRow_t (by assumption) h.2))
    | (exfalso; omega)
  have h3 : squareP t := ⟨hln, badRow_f (by assumption)⟩
  refine loop_at (fun i : Nat => [(49, vint .i64 i)]) (fun _ => []) (fun i => i ≤ t.blds.length ∧ ∀ j, j < i → ∀ k, k < t.blds.length → cellP t j k) (fun i => t.blds.length - i) 0 ⟨by omega, fun j hj => by omega⟩ (by repeat' (first | exact trivial | exact ⟨_, rfl, ALe.refl⟩ | refine And.intro ?_ ?_)) (by repeat' (first | exact trivial | exact rfl | refine And.intro ?_ ?_)) ?_
  intro a ⟨ha, htab⟩
  rcases Nat.lt_or_ge a t.blds.length with hal | hag
  · obtain ⟨row, hrow⟩ := getE (show a < t.slots.length by rw [h3.1]; exact hal)
    have hrl : row.length = t.blds.length := h3.2 row (List.mem_of_getElem? hrow)
    repeat' (first | refine o1 ?_ | refine o2 ?_ | refine k1 ?_ | refine k2 ?_ | refine k3 ?_ | refine k4 ?_ | refine k6 ?_ | refine And.intro ?_ ?_ | (intro h; first | exact Bool.noConfusion h | exact nz _ h | exact nl h | (simp at h; done) | (simp at h; first | (exfalso; omega) | skip) | skip) | refine eqv_len_map ?_ | refine ⟨_, _, (by first | rfl | assumption), at_map (by assumption), ?_⟩ | fail)
    refine loop_at (fun k : Nat => [(56, vint .i64 k)]) (fun _ => []) (fun k => k ≤ t.blds.length ∧ ∀ j, j < k → cellP t a j) (fun k => t.blds.length - k) 0 ⟨by omega, fun j hj => by omega⟩ (by repeat' (first | exact trivial | exact ⟨_, rfl, ALe.refl⟩ | refine And.intro ?_ ?_)) (by repeat' (first | exact trivial | exact rfl | refine And.intro ?_ ?_)) ?_
    intro b ⟨hb, hcl⟩
    rcases Nat.lt_or_ge b t.blds.length with hbl | hbg
    · obtain ⟨x, hx⟩ := getE (show b < row.length by omega)
      obtain ⟨row2, hrow2⟩ := getE (show b < t.slots.length by rw [h3.1]; exact hbl)
      have hrl2 : row2.length = t.blds.length := h3.2 row2 (List.mem_of_getElem? hrow2)
      obtain ⟨y, hy⟩ := getE (show a < row2.length by omega)
      repeat' (first | (refine idx_sl (f_int hx) rfl ?_) | (refine idx_sl (f_row hrow2) rfl ?_) | (refine idx_sl (f_int hy) rfl ?_) | refine o1 ?_ | refine o2 ?_ | refine k1 ?_ | refine k2 ?_ | refine k3 ?_ | refine k4 ?_ | refine k6 ?_ | refine k7 ?_ | refine And.intro ?_ ?_ | (intro h; first | exact Bool.noConfusion h | exact nz _ h | exact nl h | (simp at h; done) | (simp at h; first | (exfalso; omega) | skip) | skip) | (change retOk _ _ _ _; refine ret_pure rfl trivial ?_) | refine eqv_wrap (by omega) (by omega) ?_ | fail)
      all_goals first
        | exact vi (wE4 h1 h2 h3 (cell_bad hal hbl hrow hx hrow2 hy (by omega)))
        | exact ⟨b + 1, ⟨by omega, all_lt_succ hcl (cell_ok hrow hx hrow2 hy (by omega) (by omega) (by omega))⟩, by omega, back [0, 1] rfl rfl ⟨rfl, rfl, trivial⟩ (by repeat' (first | exact trivial | exact rfl | refine And.intro ?_ ?_))⟩
    · repeat' (first | refine o1 ?_ | refine o2 ?_ | refine k1 ?_ | refine k2 ?_ | refine k3 ?_ | refine k8 ?_ | refine And.intro ?_ ?_ | (intro h; first | exact Bool.noConfusion h | exact nz _ h | exact nl h | (simp at h; done) | (simp at h; first | (exfalso; omega) | skip) | skip) | refine eqv_wrap (by omega) (by omega) ?_ | fail)
      all_goals first
        | exact ⟨a + 1, ⟨by omega, all_lt_succ htab (fun k hk => hcl k (by omega))⟩, by omega, back [0, 1] rfl rfl ⟨rfl, rfl, trivial⟩ (by repeat' (first | exact trivial | exact rfl | refine And.intro ?_ ?_))⟩
  · repeat' (first | refine o1 ?_ | refine o2 ?_ | refine k1 ?_ | refine k2 ?_ | refine k3 ?_ | refine k7 ?_ | refine k8 ?_ | refine And.intro ?_ ?_ | (intro h; first | exact Bool.noConfusion h | exact nz _ h | exact nl h | (simp at h; done) | (simp at h; first | (exfalso; omega) | skip) | skip) | (change retOk _ _ _ _; refine ret_pure rfl trivial ?_) | fail)
    all_goals first
      | exact vi (wE5 h1 h2 h3 (fun i hi k hk => htab i (by omega) k hk))
theorem c_rtravel (t : Travel) : PCall Tryz.prog 86 [ag t.row] (fun r => r = vint .i64 (travE t)) := by
  refine acall_of tok mixed 103 rfl (fn := Tryz.f86) (c := Tryz.f86.body.getD .skip) (by kernel_rfl) (by kernel_rfl) (by kernel_rfl) rfl 0 rfl ?_
  repeat' (first | refine o1 ?_ | refine o2 ?_ | refine k1 ?_ | refine k2 ?_ | refine k3 ?_ | refine k4 ?_ | refine k6 ?_ | refine k7 ?_ | refine And.intro ?_ ?_ | (intro h; first | exact Bool.noConfusion h | exact nz _ h | exact nl h | (simp at h; done) | (simp at h; first | (exfalso; omega) | skip) | skip) | (change retOk _ _ _ _; refine ret_pure rfl trivial ?_) | refine eqv_len_map ?_ | fail)
  · exact vi (wE1 (by omega))
  have h1 : t.blds.length ≤ 8 := by omega
  refine loop_at (fun i : Nat => [(3, vint .i64 i)]) (fun _ => []) (fun i => i ≤ t.blds.length ∧ ∀ j, j < i → bldE t.blds j = 0) (fun i => t.blds.length - i) 0 ⟨by omega, fun j hj => by omega⟩ (by repeat' (first | exact trivial | exact ⟨_, rfl, ALe.refl⟩ | refine And.intro ?_ ?_)) (by repeat' (first | exact trivial | exact rfl | refine And.intro ?_ ?_)) ?_
  intro i ⟨hi, hall⟩
  rcases Nat.lt_or_ge i t.blds.length with hlt | hge
  · obtain ⟨s, hs⟩ := getE hlt
    have hcc : PCall Tryz.prog 126 [.pv (encStrs (t.blds.take i)), .pv (es s)] (fun a => a = vbool (aheadS t.blds i s)) := c_contains (t.blds.take i) s (by rw [List.length_take]; omega)
    repeat' (first | refine o1 ?_ | refine o2 ?_ | refine k1 ?_ | refine k2 ?_ | refine k3 ?_ | refine k4 ?_ | refine k6 ?_ | refine k7 ?_ | refine And.intro ?_ ?_ | refine o3 ?_ | refine o4 ?_ | (intro h; first | exact Bool.noConfusion h | exact nz _ h | exact nl h | (simp at h; done) | (simp at h; first | (exfalso; omega) | skip) | skip) | (change retOk _ _ _ _; refine ret_pure rfl trivial ?_) | exact (by kernel_rfl : drawOk _ _ = true) | refine eqv_len_map ?_ | refine eqv_wrap (by omega) (by omega) ?_ | refine ⟨_, _, (by first | rfl | assumption), at_map (by assumption), ?_⟩ | (change vcFun _ _ _ _ _; refine call_eq rfl (by repeat' (first | trivial | refine And.intro ?_ ?_ | (show 0 + _ ≤ List.length _; simp))) ALeL.refl (c_rcode s) rfl ?_) | (change vcFunD _ _ _ _ _; refine callD_eq rfl (by repeat' (first | trivial | refine And.intro ?_ ?_ | (show 0 + _ ≤ List.length _; simp))) ALeL.refl (c_place t.blds s (by omega)) rfl ?_) | fail)
    all_goals first
      | exact vi (wE2 h1 hall hlt (by decide) (bE1 hs (by assumption)))
      | exact vi (wE2 h1 hall hlt (by decide) (bE2 hs (by assumption) (by assumption)))
      | exact vi (wE2 h1 hall hlt (by decide) (bE2 hs (by assumption) (idxS_lt hs (by omega))))
      | exact ⟨i + 1, ⟨by omega, all_lt_succ hall (bE3 hs (by assumption) (by first | assumption | exact idxS_ge hs (by omega)))⟩, by omega, back [0] rfl rfl ⟨rfl, trivial⟩ (by repeat' (first | exact trivial | exact rfl | refine And.intro ?_ ?_))⟩
  have h2 : firstE (bldE t.blds) t.blds.length = 0 := firstE_zero fun j hj => hall j (by omega)
  repeat' (first | refine o1 ?_ | refine o2 ?_ | refine k1 ?_ | refine k2 ?_ | refine k3 ?_ | refine k4 ?_ | refine k6 ?_ | refine k7 ?_ | refine k8 ?_ | refine And.intro ?_ ?_ | (intro h; first | exact Bool.noConfusion h | exact nz _ h | exact nl h | (simp at h; done) | (simp at h; first | (exfalso; omega) | skip) | skip) | (change retOk _ _ _ _; refine ret_pure rfl trivial ?_) | refine eqv_len_map ?_ | fail)
  · exact vi (wE3 h1 h2 (fun h => by have := h.1; omega))
  have hln : t.slots.length = t.blds.length := by omega
  refine loop_at (fun i : Nat => [(5, vint .i64 i)]) (fun _ => []) (fun i => i ≤ t.blds.length ∧ ∀ j, j < i → ∀ row, t.slots[j]? = some row → row.length = t.blds.length) (fun i => t.blds.length - i) 0 ⟨by omega, fun j hj => by omega⟩ (by repeat' (first | exact trivial | exact ⟨_, rfl, ALe.refl⟩ | refine And.intro ?_ ?_)) (by repeat' (first | exact trivial | exact rfl | refine And.intro ?_ ?_)) ?_
  intro c ⟨hc, hsq⟩
  rcases Nat.lt_or_ge c t.blds.length with hcl | hcg
  · obtain ⟨row, hrow⟩ := getE (show c < t.slots.length by omega)
    repeat' (first | (refine idx_sl (f_row hrow) rfl ?_) | refine o1 ?_ | refine o2 ?_ | refine k1 ?_ | refine k2 ?_ | refine k3 ?_ | refine k4 ?_ | refine k6 ?_ | refine k7 ?_ | refine And.intro ?_ ?_ | (intro h; first | exact Bool.noConfusion h | exact nz _ h | exact nl h | (simp at h; done) | (simp at h; first | (exfalso; omega) | skip) | skip) | (change retOk _ _ _ _; refine ret_pure rfl trivial ?_) | refine eqv_len_map ?_ | refine eqv_wrap (by omega) (by omega) ?_ | fail)
    all_goals first
      | exact vi (wE3 h1 h2 (fun h => by have := h.2 row (List.mem_of_getElem? hrow); omega))
      | exact ⟨c + 1, ⟨by omega, all_lt_succ hsq fun r' h' => by rw [hrow] at h'; cases h'; omega⟩, by omega, back [0] rfl rfl ⟨rfl, trivial⟩ (by repeat' (first | exact trivial | exact rfl | refine And.intro ?_ ?_))⟩
  have h3 : squareP t := ⟨hln, fun row hm => by obtain ⟨j, hj⟩ := List.getElem?_of_mem hm; exact hsq j (by have := (List.getElem?_eq_some_iff.1 hj).1; omega) row hj⟩
  repeat' (first | refine o1 ?_ | refine o2 ?_ | refine k1 ?_ | refine k2 ?_ | refine k3 ?_ | refine k4 ?_ | refine k8 ?_ | refine And.intro ?_ ?_ | (intro h; first | exact Bool.noConfusion h | exact nz _ h | exact nl h | (simp at h; done) | (simp at h; first | (exfalso; omega) | skip) | skip) | fail)
  refine loop_at (fun i : Nat => [(6, vint .i64 i)]) (fun _ => []) (fun i => i ≤ t.blds.length ∧ ∀ j, j < i → ∀ k, k < t.blds.length → cellP t j k) (fun i => t.blds.length - i) 0 ⟨by omega, fun j hj => by omega⟩ (by repeat' (first | exact trivial | exact ⟨_, rfl, ALe.refl⟩ | refine And.intro ?_ ?_)) (by repeat' (first | exact trivial | exact rfl | refine And.intro ?_ ?_)) ?_
  intro a ⟨ha, htab⟩
  rcases Nat.lt_or_ge a t.blds.length with hal | hag
  · obtain ⟨row, hrow⟩ := getE (show a < t.slots.length by rw [h3.1]; exact hal)
    have hrl : row.length = t.blds.length := h3.2 row (List.mem_of_getElem? hrow)
    repeat' (first | refine o1 ?_ | refine o2 ?_ | refine k1 ?_ | refine k2 ?_ | refine k3 ?_ | refine k4 ?_ | refine k6 ?_ | refine And.intro ?_ ?_ | (intro h; first | exact Bool.noConfusion h | exact nz _ h | exact nl h | (simp at h; done) | (simp at h; first | (exfalso; omega) | skip) | skip) | fail)
    refine loop_at (fun k : Nat => [(7, vint .i64 k)]) (fun _ => []) (fun k => k ≤ t.blds.length ∧ ∀ j, j < k → cellP t a j) (fun k => t.blds.length - k) 0 ⟨by omega, fun j hj => by omega⟩ (by repeat' (first | exact trivial | exact ⟨_, rfl, ALe.refl⟩ | refine And.intro ?_ ?_)) (by repeat' (first | exact trivial | exact rfl | refine And.intro ?_ ?_)) ?_
    intro b ⟨hb, hcl⟩
    rcases Nat.lt_or_ge b t.blds.length with hbl | hbg
    · obtain ⟨x, hx⟩ := getE (show b < row.length by omega)
      obtain ⟨row2, hrow2⟩ := getE (show b < t.slots.length by rw [h3.1]; exact hbl)
      have hrl2 : row2.length = t.blds.length := h3.2 row2 (List.mem_of_getElem? hrow2)
      obtain ⟨y, hy⟩ := getE (show a < row2.length by omega)
      repeat' (first | (refine idx_sl (f_row hrow) rfl ?_) | (refine idx_sl (f_int hx) rfl ?_) | (refine idx_sl (f_row hrow2) rfl ?_) | (refine idx_sl (f_int hy) rfl ?_) | refine o1 ?_ | refine o2 ?_ | refine k1 ?_ | refine k2 ?_ | refine k3 ?_ | refine k4 ?_ | refine k6 ?_ | refine k7 ?_ | refine And.intro ?_ ?_ | (intro h; first | exact Bool.noConfusion h | exact nz _ h | exact nl h | (simp at h; done) | (simp at h; first | (exfalso; omega) | skip) | skip) | (change retOk _ _ _ _; refine ret_pure rfl trivial ?_) | refine eqv_wrap (by omega) (by omega) ?_ | fail)
      all_goals first
        | exact vi (wE4 h1 h2 h3 (cell_bad hal hbl hrow hx hrow2 hy (by omega)))
        | exact ⟨b + 1, ⟨by omega, all_lt_succ hcl (cell_ok hrow hx hrow2 hy (by omega) (by omega) (by omega))⟩, by omega, back [0] rfl rfl ⟨rfl, trivial⟩ (by repeat' (first | exact trivial | exact rfl | refine And.intro ?_ ?_))⟩
    · repeat' (first | refine o1 ?_ | refine o2 ?_ | refine k1 ?_ | refine k2 ?_ | refine k3 ?_ | refine k8 ?_ | refine And.intro ?_ ?_ | (intro h; first | exact Bool.noConfusion h | exact nz _ h | exact nl h | (simp at h; done) | (simp at h; first | (exfalso; omega) | skip) | skip) | refine eqv_wrap (by omega) (by omega) ?_ | fail)
      all_goals first
        | exact ⟨a + 1, ⟨by omega, all_lt_succ htab (fun k hk => hcl k (by omega))⟩, by omega, back [0] rfl rfl ⟨rfl, trivial⟩ (by repeat' (first | exact trivial | exact rfl | refine And.intro ?_ ?_))⟩
  · repeat' (first | refine o1 ?_ | refine o2 ?_ | refine k1 ?_ | refine k2 ?_ | refine k3 ?_ | refine k7 ?_ | refine k8 ?_ | refine And.intro ?_ ?_ | (intro h; first | exact Bool.noConfusion h | exact nz _ h | exact nl h | (simp at h; done) | (simp at h; first | (exfalso; omega) | skip) | skip) | (change retOk _ _ _ _; refine ret_pure rfl trivial ?_) | fail)
    all_goals first
      | exact vi (wE5 h1 h2 h3 (fun i hi k hk => htab i (by omega) k hk))
end Go.Proofs.YtkbaecjnhmbeeaaGreat.Cw
/-
  Contracts: classes, the reference.
-/
namespace Go.Proofs.YtkbaecjnhmbeeaaGreat.Cw
open Go.Cw Go.Proofs
set_option linter.unusedVariables false
set_option maxRecDepth 100000
set_option maxHeartbeats 1000000
theorem c_number (l : List Int) (p : Int) (k : Nat) (hk : l[k]? = some p) (hl : l.length ≤ 100000) : PCall Tryz.prog 247 [.pv (encInts l), vint .i64 p] (fun r => r = vint .i64 (idxN l p)) := by
  refine acall_of tok mixed 21 rfl (fn := Tryz.f247) (c := Tryz.f247.body.getD .skip) (by kernel_rfl) (by kernel_rfl) (by kernel_rfl) rfl 0 rfl ?_
  repeat' (first | refine o1 ?_ | refine o2 ?_ | refine k1 ?_ | refine k2 ?_ | refine k4 ?_ | fail)
  refine loop_at (fun i : Nat => [(5, vint .i64 i)]) (fun _ => []) (fun i => i ≤ l.length ∧ ∀ j, j < i → ∀ q, l[j]? = some q → pB (q = p) = false) (fun i => l.length - i) 0 ⟨by omega, fun j hj => by omega⟩ (by repeat' (first | exact trivial | exact ⟨_, rfl, ALe.refl⟩ | refine And.intro ?_ ?_)) (by repeat' (first | exact trivial)) ?_
  intro i ⟨hi, hall⟩
  rcases Nat.lt_or_ge i l.length with hlt | hge
  · obtain ⟨q, hq⟩ := getE hlt
    repeat' (first | refine o1 ?_ | refine o2 ?_ | refine k1 ?_ | refine k2 ?_ | refine k3 ?_ | refine k4 ?_ | refine k6 ?_ | refine k7 ?_ | refine And.intro ?_ ?_ | (intro h; first | exact Bool.noConfusion h | exact nz _ h | exact nl h | (simp at h; done) | (simp at h; first | (exfalso; omega) | skip) | skip) | (change retOk _ _ _ _; refine ret_pure rfl trivial ?_) | refine eqv_len_map ?_ | refine eqv_wrap (by omega) (by omega) ?_ | refine ⟨_, _, (by first | rfl | assumption), at_map (by assumption), ?_⟩ | fail)
    all_goals first
      | exact congrArg (vint .i64) (idxB_at hall hq (pB_t (by omega))).symm
      | exact ⟨i + 1, ⟨by omega, all_lt_succ hall fun q' h' => by rw [hq] at h'; cases h'; exact pB_f (by omega)⟩, by omega, back [] rfl rfl trivial (by repeat' (first | exact trivial | exact rfl | refine And.intro ?_ ?_))⟩
  · exfalso
    have := hall k (by have := (List.getElem?_eq_some_iff.1 hk).1; omega) p hk
    simp at this
theorem ahead_lt {l : List Int} {i : Nat} {p : Int} (hp : l[i]? = some p) (h : idxN l p < i) : aheadN l i p = true := by
  have := idxB_lt (p := fun q => pB (q = p)) hp (pB_t rfl) h
  obtain ⟨y, hy, e⟩ := List.any_eq_true.1 this
  exact pB_t (by have e : y = p := by simpa using e
                 rw [← e]; exact hy)
theorem ahead_ge {l : List Int} {i : Nat} {p : Int} (hp : l[i]? = some p) (h : (i : Int) ≤ idxN l p) : aheadN l i p = false := by
  have := idxB_ge (p := fun q => pB (q = p)) hp (pB_t rfl) h
  refine pB_f fun hm => ?_
  have := List.any_eq_false.1 this p hm
  simp at this
theorem pats0 {l : List Int} {w : Int} (h : l = []) : patsE l w = 16 := by subst h; rfl
theorem pats2 {l : List Int} {w : Int} (h0 : ¬ l = []) (h : 8 < l.length) : patsE l w = 2 := by unfold patsE; rw [if_neg (by intro e; exact h0 (List.length_eq_zero_iff.1 e)), if_pos h]
theorem pats3 {l : List Int} {w : Int} (h0 : ¬ l = []) (h : l.length ≤ 8) : patsE l w = firstE (patE l w) l.length := by unfold patsE; rw [if_neg (by intro e; exact h0 (List.length_eq_zero_iff.1 e)), if_neg (by omega)]
section
variable {c : Class} {g : Grid} {w : Int} (h1 : codeP c.code) (h2 : codeP c.course) (h3 : codeP c.part) (h4 : 1 ≤ c.len ∧ c.len ≤ g.slots)
include h1 h2 h3 h4
theorem kE3a (h : c.pats = []) : clsE c g w = 16 := by
  have := pats0 (w := w) h
  rw [kE3 h1 h2 h3 h4 (by rw [this]; decide), this]
theorem kE3b (h0 : ¬ c.pats = []) (h : 8 < c.pats.length) : clsE c g w = 2 := by
  have := pats2 (w := w) h0 h
  rw [kE3 h1 h2 h3 h4 (by rw [this]; decide), this]
end
theorem c_rcheck (c : Class) (g : Grid) (w : Int) (hg : 0 ≤ g.slots ∧ g.slots ≤ 1000) : PCall Tryz.prog 183 [ag c.row, ag g.row, vint .i64 w] (fun r => r = vint .i64 (clsE c g w)) := by
  refine acall_of tok mixed 146 rfl (fn := Tryz.f183) (c := Tryz.f183.body.getD .skip) (by kernel_rfl) (by kernel_rfl) (by kernel_rfl) rfl 0 rfl ?_
  repeat' (first | refine o1 ?_ | refine o2 ?_ | refine k1 ?_ | refine k2 ?_ | refine k3 ?_ | refine k4 ?_ | refine k6 ?_ | refine k7 ?_ | refine And.intro ?_ ?_ | (intro h; first | exact Bool.noConfusion h | exact nz _ h | exact nl h | (simp at h; done) | (simp at h; first | (exfalso; omega) | skip) | skip) | (change retOk _ _ _ _; refine ret_pure rfl trivial ?_) | refine eqv_len_map ?_ | (change vcFun _ _ _ _ _; refine call_eq rfl (by repeat' (first | trivial | refine And.intro ?_ ?_ | (show 0 + _ ≤ List.length _; simp))) ALeL.refl (c_rcode c.code) rfl ?_) | (change vcFun _ _ _ _ _; refine call_eq rfl (by repeat' (first | trivial | refine And.intro ?_ ?_ | (show 0 + _ ≤ List.length _; simp))) ALeL.refl (c_rcode c.course) rfl ?_) | (change vcFun _ _ _ _ _; refine call_eq rfl (by repeat' (first | trivial | refine And.intro ?_ ?_ | (show 0 + _ ≤ List.length _; simp))) ALeL.refl (c_rcode c.part) rfl ?_) | fail)
  all_goals try first
    | exact vi (kE1 (by first | exact .inl (by assumption) | exact .inr (.inl (by assumption)) | exact .inr (.inr (by assumption))))
    | exact vi (kE2 (by assumption) (by assumption) (by assumption) (by omega))
    | exact vi (kE3a (by assumption) (by assumption) (by assumption) (by omega) (by assumption))
    | exact vi (kE3b (by assumption) (by assumption) (by assumption) (by omega) (by assumption) (by omega))
  have h1 : codeP c.code := by assumption
  have h2 : codeP c.course := by assumption
  have h3 : codeP c.part := by assumption
  have h4 : 1 ≤ c.len ∧ c.len ≤ g.slots := by omega
  have h5 : ¬ c.pats = [] := by assumption
  have h6 : c.pats.length ≤ 8 := by omega
  have hps := pats3 (w := w) h5 h6
  refine loop_at (fun i : Nat => [(7, vint .i64 i)]) (fun _ => []) (fun i => i ≤ c.pats.length ∧ ∀ j, j < i → patE c.pats w j = 0) (fun i => c.pats.length - i) 0 ⟨by omega, fun j hj => by omega⟩ (by repeat' (first | exact trivial | exact ⟨_, rfl, ALe.refl⟩ | refine And.intro ?_ ?_)) (by repeat' (first | exact trivial | exact rfl | refine And.intro ?_ ?_)) ?_
  intro i ⟨hi, hall⟩
  rcases Nat.lt_or_ge i c.pats.length with hlt | hge
  · obtain ⟨p, hp⟩ := getE hlt
    have hbad : patE c.pats w i = 1 → clsE c g w = 1 := fun h => by
      have : patsE c.pats w = 1 := by rw [hps, firstE_at hall (by rw [h]; decide) hlt, h]
      rw [kE3 h1 h2 h3 h4 (by rw [this]; decide), this]
    repeat' (first | refine o1 ?_ | refine o2 ?_ | refine k1 ?_ | refine k2 ?_ | refine k3 ?_ | refine k4 ?_ | refine k6 ?_ | refine k7 ?_ | refine And.intro ?_ ?_ | refine o3 ?_ | refine o4 ?_ | (intro h; first | exact Bool.noConfusion h | exact nz _ h | exact nl h | (simp at h; done) | (simp at h; first | (exfalso; omega) | skip) | skip) | (change retOk _ _ _ _; refine ret_pure rfl trivial ?_) | exact (by kernel_rfl : drawOk _ _ = true) | refine eqv_len_map ?_ | refine eqv_wrap (by omega) (by omega) ?_ | refine ⟨_, _, (by first | rfl | assumption), at_map (by assumption), ?_⟩ | (change vcFunD _ _ _ _ _; refine callD_eq rfl (by repeat' (first | trivial | refine And.intro ?_ ?_ | (show 0 + _ ≤ List.length _; simp))) ALeL.refl (c_rset p w) rfl ?_) | (change vcFunD _ _ _ _ _; refine callD_eq rfl (by repeat' (first | trivial | refine And.intro ?_ ?_ | (show 0 + _ ≤ List.length _; simp))) ALeL.refl (c_number c.pats p i hp (by omega)) rfl ?_) | fail)
    all_goals first
      | exact vi (hbad (pE1 hp (by assumption)))
      | exact vi (hbad (pE2 hp (by assumption) (ahead_lt hp (by omega))))
      | exact ⟨i + 1, ⟨by omega, all_lt_succ hall (pE3 hp (by assumption) (ahead_ge hp (by omega)))⟩, by omega, back [0, 1] rfl rfl ⟨rfl, rfl, trivial⟩ (by repeat' (first | exact trivial | exact rfl | refine And.intro ?_ ?_))⟩
  have h7 : patsE c.pats w = 0 := by rw [hps, firstE_zero fun j hj => hall j (by omega)]
  repeat' (first | refine o1 ?_ | refine o2 ?_ | refine k1 ?_ | refine k2 ?_ | refine k3 ?_ | refine k4 ?_ | refine k6 ?_ | refine k7 ?_ | refine k8 ?_ | refine And.intro ?_ ?_ | (intro h; first | exact Bool.noConfusion h | exact nz _ h | exact nl h | (simp at h; done) | (simp at h; first | (exfalso; omega) | skip) | skip) | (change retOk _ _ _ _; refine ret_pure rfl trivial ?_) | refine eqv_len_map ?_ | (change vcFun _ _ _ _ _; refine call_eq rfl (by repeat' (first | trivial | refine And.intro ?_ ?_ | (show 0 + _ ≤ List.length _; simp))) ALeL.refl (c_rcodes c.feats (by omega)) rfl ?_) | (change vcFun _ _ _ _ _; refine call_eq rfl (by repeat' (first | trivial | refine And.intro ?_ ?_ | (show 0 + _ ≤ List.length _; simp))) ALeL.refl (c_rcodes c.staff (by omega)) rfl ?_) | fail)
  all_goals try first
    | exact vi (kE4 h1 h2 h3 h4 h7 (by omega))
    | exact vi (kE5 h1 h2 h3 h4 h7 (by omega) (by omega))
    | exact vi (kE6 h1 h2 h3 h4 h7 (by omega) (by omega) (by first | exact .inl (by assumption) | exact .inr (by assumption)))
    | exact vi (kE7 h1 h2 h3 h4 h7 (by omega) (by omega) (by assumption) (by assumption) (by omega))
  have hl : c.starts.length ≤ 24 := by omega
  have hfin := kE8 h1 h2 h3 h4 h7 (by omega) (by omega) (by assumption) (by assumption) hl
  refine loop_at (fun i : Nat => [(8, vint .i64 i)]) (fun _ => []) (fun i => i ≤ c.starts.length ∧ ∀ j, j < i → startAt c.starts c.len g j) (fun i => c.starts.length - i) 0 ⟨by omega, fun j hj => by omega⟩ (by repeat' (first | exact trivial | exact ⟨_, rfl, ALe.refl⟩ | refine And.intro ?_ ?_)) (by repeat' (first | exact trivial | exact rfl | refine And.intro ?_ ?_)) ?_
  intro i ⟨hi, hall⟩
  rcases Nat.lt_or_ge i c.starts.length with hlt | hge
  · obtain ⟨s, hs⟩ := getE hlt
    obtain ⟨p, hp⟩ := prevE hlt
    repeat' (first | refine o1 ?_ | refine o2 ?_ | refine k1 ?_ | refine k2 ?_ | refine k3 ?_ | refine k4 ?_ | refine k6 ?_ | refine k7 ?_ | refine And.intro ?_ ?_ | refine o3 ?_ | refine o4 ?_ | (intro h; first | exact Bool.noConfusion h | exact nz _ h | exact nl h | (simp at h; done) | (simp at h; first | (exfalso; omega) | skip) | skip) | (change retOk _ _ _ _; refine ret_pure rfl trivial ?_) | exact (by kernel_rfl : drawOk _ _ = true) | refine eqv_len_map ?_ | refine eqv_wrap (by omega) (by omega) ?_ | refine ⟨_, _, (by first | rfl | assumption), at_map (by assumption), ?_⟩ | (change vcFunD _ _ _ _ _; refine callD_eq rfl (by repeat' (first | trivial | refine And.intro ?_ ?_ | (show 0 + _ ≤ List.length _; simp))) ALeL.refl (c_rposs s c.len g (by omega) hg) rfl ?_) | (change vcFunD _ _ _ _ _; refine callD_eq rfl (by repeat' (first | trivial | refine And.intro ?_ ?_ | (show 0 + _ ≤ List.length _; simp))) ALeL.refl (c_rless p s) rfl ?_) | (refine idx_sl (k := i - 1) (at_map (hp (by omega))) (by omega) ?_) | fail)
    all_goals first
      | exact vi (by rw [hfin, pB_f (startAt_f hlt hs (by assumption))]; rfl)
      | exact vi (by rw [hfin, pB_f (startAt_g hlt hs (by omega) (hp (by omega)) (by assumption))]; rfl)
      | exact ⟨i + 1, ⟨by omega, all_lt_succ hall (startAt_t hs hp (by assumption) (fun _ => by assumption))⟩, by omega, back [0, 1] rfl rfl ⟨rfl, rfl, trivial⟩ (by repeat' (first | exact trivial | exact rfl | refine And.intro ?_ ?_))⟩
      | exact ⟨i + 1, ⟨by omega, all_lt_succ hall (startAt_t hs hp (by assumption) (fun _ => by omega))⟩, by omega, back [0, 1] rfl rfl ⟨rfl, rfl, trivial⟩ (by repeat' (first | exact trivial | exact rfl | refine And.intro ?_ ?_))⟩
  · repeat' (first | refine o1 ?_ | refine o2 ?_ | refine k1 ?_ | refine k2 ?_ | refine k3 ?_ | refine k7 ?_ | refine k8 ?_ | refine And.intro ?_ ?_ | (intro h; first | exact Bool.noConfusion h | exact nz _ h | exact nl h | (simp at h; done) | (simp at h; first | (exfalso; omega) | skip) | skip) | (change retOk _ _ _ _; refine ret_pure rfl trivial ?_) | refine eqv_len_map ?_ | fail)
    exact vi (by rw [hfin, pB_t (show startsP c.starts c.len g from fun j hj => hall j (by omega))]; rfl)
theorem c_rclasses (l : List Class) (g : Grid) (w : Int) : PCall Tryz.prog 88 [.pv (.sl 9 (l.map Class.row)), ag g.row, vint .i64 w] (fun r => r = vint .i64 (classesE l g w)) := by
  refine acall_of tok mixed 41 rfl (fn := Tryz.f88) (c := Tryz.f88.body.getD .skip) (by kernel_rfl) (by kernel_rfl) (by kernel_rfl) rfl 0 rfl ?_
  repeat' (first | refine o1 ?_ | refine o2 ?_ | refine k1 ?_ | refine k2 ?_ | refine k3 ?_ | refine k4 ?_ | refine k6 ?_ | refine k7 ?_ | refine And.intro ?_ ?_ | (intro h; first | exact Bool.noConfusion h | exact nz _ h | exact nl h | (simp at h; done) | (simp at h; first | (exfalso; omega) | skip) | skip) | (change retOk _ _ _ _; refine ret_pure rfl trivial ?_) | refine eqv_len_map ?_ | (change vcFun _ _ _ _ _; refine call_eq rfl (by repeat' (first | trivial | refine And.intro ?_ ?_ | (show 0 + _ ≤ List.length _; simp))) ALeL.refl (c_rweek g w) rfl ?_) | fail)
  · exact vi (by unfold classesE; rw [if_pos (by assumption)])
  · exact vi (by unfold classesE; rw [if_neg (by simp [*]), if_pos (by omega)])
  have hw : weekP g w := by assumption
  have hn : l.length ≤ 24 := by omega
  have hfin : classesE l g w = firstE (classE l g w) l.length := by unfold classesE; rw [if_neg (by simp [hw]), if_neg (by omega)]
  refine loop_at (fun i : Nat => [(7, vint .i64 i)]) (fun _ => []) (fun i => i ≤ l.length ∧ ∀ j, j < i → classE l g w j = 0) (fun i => l.length - i) 0 ⟨by omega, fun j hj => by omega⟩ (by repeat' (first | exact trivial | exact ⟨_, rfl, ALe.refl⟩ | refine And.intro ?_ ?_)) (by repeat' (first | exact trivial | exact rfl | refine And.intro ?_ ?_)) ?_
  intro i ⟨hi, hall⟩
  rcases Nat.lt_or_ge i l.length with hlt | hge
  · obtain ⟨c, hc⟩ := getE hlt
    repeat' (first | refine o1 ?_ | refine o2 ?_ | refine k1 ?_ | refine k2 ?_ | refine k3 ?_ | refine k4 ?_ | refine k6 ?_ | refine k7 ?_ | refine And.intro ?_ ?_ | refine o3 ?_ | refine o4 ?_ | (intro h; first | exact Bool.noConfusion h | exact nz _ h | exact nl h | (simp at h; done) | (simp at h; first | (exfalso; omega) | skip) | skip) | (change retOk _ _ _ _; refine ret_pure rfl trivial ?_) | exact (by kernel_rfl : drawOk _ _ = true) | refine eqv_len_map ?_ | refine eqv_wrap (by omega) (by omega) ?_ | refine ⟨_, _, (by first | rfl | assumption), at_map (by assumption), ?_⟩ | (change vcFunD _ _ _ _ _; refine callD_eq rfl (by repeat' (first | trivial | refine And.intro ?_ ?_ | (show 0 + _ ≤ List.length _; simp))) ALeL.refl (c_rcheck c g w (week_b hw)) rfl ?_) | (change vcFun _ _ _ _ _; refine call_eq rfl (by repeat' (first | trivial | refine And.intro ?_ ?_ | (show 0 + _ ≤ List.length _; simp))) ALeL.refl (c_rcidx l c.code (by omega)) rfl ?_) | fail)
    all_goals first
      | exact first_fin2 hall hlt (by assumption) hfin (mE1' hc (by assumption))
      | exact first_fin hall hlt (by decide) hfin (mE2' hc (by assumption) (idxB_lt (p := fun y : Class => pB (y.code = c.code)) hc (pB_t rfl) (by omega)))
      | exact ⟨i + 1, ⟨by omega, all_lt_succ hall (mE3' hc (by assumption) (idxB_ge (p := fun y : Class => pB (y.code = c.code)) hc (pB_t rfl) (by omega)))⟩, by omega, back [0] rfl rfl ⟨rfl, trivial⟩ (by repeat' (first | exact trivial | exact rfl | refine And.intro ?_ ?_))⟩
  · repeat' (first | refine o1 ?_ | refine o2 ?_ | refine k1 ?_ | refine k2 ?_ | refine k3 ?_ | refine k7 ?_ | refine k8 ?_ | refine And.intro ?_ ?_ | (intro h; first | exact Bool.noConfusion h | exact nz _ h | exact nl h | (simp at h; done) | (simp at h; first | (exfalso; omega) | skip) | skip) | (change retOk _ _ _ _; refine ret_pure rfl trivial ?_) | refine eqv_len_map ?_ | fail)
    exact vi (by rw [hfin, firstE_zero fun j hj => hall j (by omega)])
end Go.Proofs.YtkbaecjnhmbeeaaGreat.Cw
/-
  Contracts: registries, checked.
-/
namespace Go.Proofs.YtkbaecjnhmbeeaaGreat.Cw
open Go.Cw Go.Proofs
set_option linter.unusedVariables false
set_option maxRecDepth 100000
set_option maxHeartbeats 4000000
noncomputable def unk1 (r : Reg) : Bool := r.classes.any fun c => !staffB r.staff c.staff
noncomputable def unk2 (r : Reg) : Bool := r.curris.any fun c => !taughtB r.classes c.courses
noncomputable def unk3 (r : Reg) : Bool := r.reqs.any fun q => !askedB r.classes q
noncomputable def unknownB (r : Reg) : Bool := unk1 r || unk2 r || unk3 r
noncomputable def partsE (r : Reg) : List Int := [gridE r.grid, termE r.term, roomsE r.rooms r.grid r.term.weeks, travE r.travel, staffE r.staff r.grid r.term.weeks, classesE r.classes r.grid r.term.weeks, currisE r.curris, reqsE r.reqs]
noncomputable def regE (r : Reg) : Int := if orI (partsE r) ≠ 0 then orI (partsE r) else if unknownB r then 12 else 0
structure RegS (r : Reg) : Prop where
  lens : RegL r
  reqs : r.reqs.length ≤ 400
  cls : ∀ c ∈ r.classes, c.staff.length ≤ 100000 ∧ c.feats.length ≤ 100000
  cur : ∀ c ∈ r.curris, c.courses.length ≤ 100000
  ins : ∀ q ∈ r.reqs, q.instead.length ≤ 100000
theorem all_mem {α : Type} {f : Nat → Int} {l : List α} {p : α → Prop} (h : firstE f l.length = 0) (hp : ∀ i x, l[i]? = some x → f i = 0 → p x) : ∀ x ∈ l, p x := fun x hx => by
  obtain ⟨i, hi⟩ := List.getElem?_of_mem hx
  exact hp i x hi (firstE_zero_iff.1 h i (List.getElem?_eq_some_iff.1 hi).1)
theorem rooms_len {l : List Room} {g : Grid} {w : Int} (h : roomsE l g w = 0) : l.length ≤ 16 := by
  unfold roomsE at h
  split at h
  · split at h
    · omega
    · omega
  · omega
theorem staff_len {l : List Lecturer} {g : Grid} {w : Int} (h : staffE l g w = 0) : l.length ≤ 32 := by
  unfold staffE at h
  split at h
  · omega
  · split at h <;> omega
theorem classes_len {l : List Class} {g : Grid} {w : Int} (h : classesE l g w = 0) : l.length ≤ 24 ∧ ∀ c ∈ l, clsE c g w = 0 := by
  unfold classesE at h
  split at h
  · omega
  · split at h
    · omega
    · refine ⟨by omega, all_mem h fun i c hc h0 => ?_⟩
      unfold classE at h0
      rw [hc] at h0
      dsimp only at h0
      split at h0
      · rename_i h1; exact absurd h0 h1
      · rename_i h1; omega
theorem cls_len {c : Class} {g : Grid} {w : Int} (h : clsE c g w = 0) : c.feats.length ≤ 8 ∧ c.staff.length ≤ 8 := by
  unfold clsE at h
  split at h
  · omega
  · split at h
    · omega
    · split at h
      · rename_i h1; exact absurd h h1
      · split at h
        · omega
        · split at h
          · omega
          · omega
theorem curris_len {l : List Curri} (h : currisE l = 0) : l.length ≤ 16 ∧ ∀ c ∈ l, c.courses.length ≤ 8 := by
  unfold currisE at h
  split at h
  · omega
  · refine ⟨by omega, all_mem h fun i c hc h0 => ?_⟩
    unfold curE at h0
    rw [hc] at h0
    dsimp only at h0
    split at h0
    · omega
    · split at h0
      · omega
      · split at h0
        · omega
        · omega
theorem rq_len {q : Req} (h : rqE q = 0) : q.instead.length ≤ 8 := by
  unfold rqE at h
  split at h
  · omega
  · split at h
    · omega
    · split at h
      · omega
      · omega
theorem reqs_len {l : List Req} (h : reqsE l = 0) : l.length ≤ 400 ∧ ∀ q ∈ l, q.instead.length ≤ 8 := by
  unfold reqsE at h
  split at h
  · omega
  · refine ⟨by omega, all_mem h fun i q hq h0 => ?_⟩
    unfold reqE at h0
    rw [hq] at h0
    dsimp only at h0
    split at h0
    · rename_i h1; exact absurd h0 h1
    · rename_i h1; exact rq_len (by omega)
theorem regS_of {r : Reg} (h3 : roomsE r.rooms r.grid r.term.weeks = 0) (h5 : staffE r.staff r.grid r.term.weeks = 0) (h6 : classesE r.classes r.grid r.term.weeks = 0) (h7 : currisE r.curris = 0) (h8 : reqsE r.reqs = 0) : RegS r := by
  have a := rooms_len h3
  have b := staff_len h5
  obtain ⟨c, d⟩ := classes_len h6
  obtain ⟨e, f⟩ := curris_len h7
  obtain ⟨g, i⟩ := reqs_len h8
  exact ⟨⟨by omega, by omega, by omega, by omega⟩, g, fun x hx => by have := cls_len (d x hx); omega, fun x hx => by have := f x hx; omega, fun x hx => by have := i x hx; omega⟩
theorem c_ck1 (r : Reg) : PCall Tryz.prog 45 [.pv (.ia r.cells)] (fun a => a = vint .i64 (gridE r.grid)) := by
  refine acall_of tok mixed 5 rfl (fn := Tryz.f45) (c := Tryz.f45.body.getD .skip) (by kernel_rfl) (by kernel_rfl) (by kernel_rfl) rfl 0 rfl ?_
  repeat' (first | refine o1 ?_ | refine o2 ?_ | refine k1 ?_ | refine k2 ?_ | refine k7 ?_ | (change retOk _ _ _ _; refine ret_pure rfl trivial ?_) | (change vcFun _ _ _ _ _; refine call_eq rfl (by repeat' (first | trivial | refine And.intro ?_ ?_ | (show 0 + _ ≤ List.length _; simp))) ALeL.refl (c_grid r.grid) rfl ?_) | fail)
  all_goals first
    | rfl
theorem c_ck2 (r : Reg) : PCall Tryz.prog 47 [.pv (.ia r.cells)] (fun a => a = vint .i64 (termE r.term)) := by
  refine acall_of tok mixed 5 rfl (fn := Tryz.f47) (c := Tryz.f47.body.getD .skip) (by kernel_rfl) (by kernel_rfl) (by kernel_rfl) rfl 0 rfl ?_
  repeat' (first | refine o1 ?_ | refine o2 ?_ | refine k1 ?_ | refine k2 ?_ | refine k7 ?_ | (change retOk _ _ _ _; refine ret_pure rfl trivial ?_) | (change vcFun _ _ _ _ _; refine call_eq rfl (by repeat' (first | trivial | refine And.intro ?_ ?_ | (show 0 + _ ≤ List.length _; simp))) ALeL.refl (c_term r.term) rfl ?_) | fail)
  all_goals first
    | rfl
theorem c_ck3 (r : Reg) : PCall Tryz.prog 49 [.pv (.ia r.cells)] (fun a => a = vint .i64 (roomsE r.rooms r.grid r.term.weeks)) := by
  refine acall_of tok mixed 10 rfl (fn := Tryz.f49) (c := Tryz.f49.body.getD .skip) (by kernel_rfl) (by kernel_rfl) (by kernel_rfl) rfl 0 rfl ?_
  repeat' (first | refine o1 ?_ | refine o2 ?_ | refine k1 ?_ | refine k2 ?_ | refine k7 ?_ | (change retOk _ _ _ _; refine ret_pure rfl trivial ?_) | (change vcFun _ _ _ _ _; refine call_eq rfl (by repeat' (first | trivial | refine And.intro ?_ ?_ | (show 0 + _ ≤ List.length _; simp))) ALeL.refl (c_rooms r.rooms r.grid r.term.weeks) rfl ?_) | fail)
  all_goals first
    | rfl
theorem c_ck4 (r : Reg) : PCall Tryz.prog 51 [.pv (.ia r.cells)] (fun a => a = vint .i64 (travE r.travel)) := by
  refine acall_of tok mixed 5 rfl (fn := Tryz.f51) (c := Tryz.f51.body.getD .skip) (by kernel_rfl) (by kernel_rfl) (by kernel_rfl) rfl 0 rfl ?_
  repeat' (first | refine o1 ?_ | refine o2 ?_ | refine k1 ?_ | refine k2 ?_ | refine k7 ?_ | (change retOk _ _ _ _; refine ret_pure rfl trivial ?_) | (change vcFun _ _ _ _ _; refine call_eq rfl (by repeat' (first | trivial | refine And.intro ?_ ?_ | (show 0 + _ ≤ List.length _; simp))) ALeL.refl (c_travel r.travel) rfl ?_) | fail)
  all_goals first
    | rfl
theorem c_ck5 (r : Reg) : PCall Tryz.prog 53 [.pv (.ia r.cells)] (fun a => a = vint .i64 (staffE r.staff r.grid r.term.weeks)) := by
  refine acall_of tok mixed 10 rfl (fn := Tryz.f53) (c := Tryz.f53.body.getD .skip) (by kernel_rfl) (by kernel_rfl) (by kernel_rfl) rfl 0 rfl ?_
  repeat' (first | refine o1 ?_ | refine o2 ?_ | refine k1 ?_ | refine k2 ?_ | refine k7 ?_ | (change retOk _ _ _ _; refine ret_pure rfl trivial ?_) | (change vcFun _ _ _ _ _; refine call_eq rfl (by repeat' (first | trivial | refine And.intro ?_ ?_ | (show 0 + _ ≤ List.length _; simp))) ALeL.refl (c_staff r.staff r.grid r.term.weeks) rfl ?_) | fail)
  all_goals first
    | rfl
theorem c_ck6 (r : Reg) : PCall Tryz.prog 55 [.pv (.ia r.cells)] (fun a => a = vint .i64 (classesE r.classes r.grid r.term.weeks)) := by
  refine acall_of tok mixed 10 rfl (fn := Tryz.f55) (c := Tryz.f55.body.getD .skip) (by kernel_rfl) (by kernel_rfl) (by kernel_rfl) rfl 0 rfl ?_
  repeat' (first | refine o1 ?_ | refine o2 ?_ | refine k1 ?_ | refine k2 ?_ | refine k7 ?_ | (change retOk _ _ _ _; refine ret_pure rfl trivial ?_) | (change vcFun _ _ _ _ _; refine call_eq rfl (by repeat' (first | trivial | refine And.intro ?_ ?_ | (show 0 + _ ≤ List.length _; simp))) ALeL.refl (c_classes r.classes r.grid r.term.weeks) rfl ?_) | fail)
  all_goals first
    | rfl
theorem c_ck7 (r : Reg) : PCall Tryz.prog 57 [.pv (.ia r.cells)] (fun a => a = vint .i64 (currisE r.curris)) := by
  refine acall_of tok mixed 5 rfl (fn := Tryz.f57) (c := Tryz.f57.body.getD .skip) (by kernel_rfl) (by kernel_rfl) (by kernel_rfl) rfl 0 rfl ?_
  repeat' (first | refine o1 ?_ | refine o2 ?_ | refine k1 ?_ | refine k2 ?_ | refine k7 ?_ | (change retOk _ _ _ _; refine ret_pure rfl trivial ?_) | (change vcFun _ _ _ _ _; refine call_eq rfl (by repeat' (first | trivial | refine And.intro ?_ ?_ | (show 0 + _ ≤ List.length _; simp))) ALeL.refl (c_curris r.curris) rfl ?_) | fail)
  all_goals first
    | rfl
theorem c_ck8 (r : Reg) : PCall Tryz.prog 59 [.pv (.ia r.cells)] (fun a => a = vint .i64 (reqsE r.reqs)) := by
  refine acall_of tok mixed 5 rfl (fn := Tryz.f59) (c := Tryz.f59.body.getD .skip) (by kernel_rfl) (by kernel_rfl) (by kernel_rfl) rfl 0 rfl ?_
  repeat' (first | refine o1 ?_ | refine o2 ?_ | refine k1 ?_ | refine k2 ?_ | refine k7 ?_ | (change retOk _ _ _ _; refine ret_pure rfl trivial ?_) | (change vcFun _ _ _ _ _; refine call_eq rfl (by repeat' (first | trivial | refine And.intro ?_ ?_ | (show 0 + _ ≤ List.length _; simp))) ALeL.refl (c_reqs r.reqs) rfl ?_) | fail)
  all_goals first
    | rfl
theorem c_ck9 (r : Reg) (hr : RegL r) (c : Class) (hc : c.staff.length ≤ 100000) : PCall Tryz.prog 62 [ag c.row, .pv (.ia r.cells)] (fun a => a = vbool (!staffB r.staff c.staff)) := by
  refine acall_of tok mixed 8 rfl (fn := Tryz.f62) (c := Tryz.f62.body.getD .skip) (by kernel_rfl) (by kernel_rfl) (by kernel_rfl) rfl 0 rfl ?_
  repeat' (first | refine o1 ?_ | refine o2 ?_ | refine k1 ?_ | refine k2 ?_ | refine k7 ?_ | (change retOk _ _ _ _; refine ret_pure rfl trivial ?_) | (change vcFun _ _ _ _ _; refine call_eq rfl (by repeat' (first | trivial | refine And.intro ?_ ?_ | (show 0 + _ ≤ List.length _; simp))) ALeL.refl (c_staffed r c hr hc) rfl ?_) | fail)
  rfl
theorem c_ck10 (r : Reg) (hr : RegL r) (c : Curri) (hc : c.courses.length ≤ 100000) : PCall Tryz.prog 65 [ag c.row, .pv (.ia r.cells)] (fun a => a = vbool (!taughtB r.classes c.courses)) := by
  refine acall_of tok mixed 9 rfl (fn := Tryz.f65) (c := Tryz.f65.body.getD .skip) (by kernel_rfl) (by kernel_rfl) (by kernel_rfl) rfl 0 rfl ?_
  repeat' (first | refine o1 ?_ | refine o2 ?_ | refine k1 ?_ | refine k2 ?_ | refine k7 ?_ | (change retOk _ _ _ _; refine ret_pure rfl trivial ?_) | (change vcFun _ _ _ _ _; refine call_eq rfl (by repeat' (first | trivial | refine And.intro ?_ ?_ | (show 0 + _ ≤ List.length _; simp))) ALeL.refl (c_taught r c.courses hr hc) rfl ?_) | fail)
  rfl
theorem c_ck11 (r : Reg) (hr : RegL r) (q : Req) (hc : q.instead.length ≤ 100000) : PCall Tryz.prog 68 [ag q.row, .pv (.ia r.cells)] (fun a => a = vbool (!askedB r.classes q)) := by
  refine acall_of tok mixed 8 rfl (fn := Tryz.f68) (c := Tryz.f68.body.getD .skip) (by kernel_rfl) (by kernel_rfl) (by kernel_rfl) rfl 0 rfl ?_
  repeat' (first | refine o1 ?_ | refine o2 ?_ | refine k1 ?_ | refine k2 ?_ | refine k7 ?_ | (change retOk _ _ _ _; refine ret_pure rfl trivial ?_) | (change vcFun _ _ _ _ _; refine call_eq rfl (by repeat' (first | trivial | refine And.intro ?_ ?_ | (show 0 + _ ≤ List.length _; simp))) ALeL.refl (c_asked r q hr hc) rfl ?_) | fail)
  rfl
theorem rE1' {r : Reg} {k : Int} (h : orI (partsE r) = k) (hk : k ≠ 0) : regE r = k := by unfold regE; rw [h, if_pos hk]
theorem rE2' {r : Reg} (h : orI (partsE r) = 0) (hk : unknownB r = true) : regE r = 12 := by unfold regE; rw [h]; simp [hk]
theorem rE3' {r : Reg} (h : orI (partsE r) = 0) (hk : unknownB r = false) : regE r = 0 := by unfold regE; rw [h]; simp [hk]
theorem load_at {α : Type} {xs : List α} {k : Nat} {C : α → Prop} (r : α) (h : xs[k]? = some r) (hc : C r) : ∃ x, xs[k]? = some x ∧ C x := ⟨r, h, hc⟩
theorem vi2 {n m : Int} (h : m = n) : vint .i64 n = vint .i64 m := by rw [h]
theorem c_check (r : Reg) : PCall Tryz.prog 19 [ag r.cells] (fun a => a = vint .i64 (regE r)) := by
  refine acall_of tok mixed 46 rfl (fn := Tryz.f19) (c := Tryz.f19.body.getD .skip) (by kernel_rfl) (by kernel_rfl) (by kernel_rfl) rfl 0 rfl ?_
  repeat' (first | refine o1 ?_ | refine o2 ?_ | refine k1 ?_ | refine k2 ?_ | refine k4 ?_ | fail)
  refine code_rounds 9 ?_
  change xCode _ _ _ _ _ _ _ _
  repeat' (first | ((change xCode _ _ _ _ _ _ _ _; refine k1 ?_)) | refine o1 ?_ | refine o2 ?_ | refine k2 ?_ | refine k3 ?_ | refine k4 ?_ | refine k6 ?_ | refine k7 ?_ | refine k8 ?_ | refine And.intro ?_ ?_ | (intro h; first | exact Bool.noConfusion h | exact nz _ h | exact nl h | (simp at h; done) | (simp at h; first | (exfalso; omega) | skip) | skip) | (change retOk _ _ _ _; refine ret_pure rfl trivial ?_) | refine eqv_wrap (by omega) (by omega) ?_ | (change vcFun _ _ _ _ _; refine call_eq rfl (by repeat' (first | trivial | refine And.intro ?_ ?_ | (show 0 + _ ≤ List.length _; simp))) ALeL.refl (c_ck1 r) rfl ?_) | (change vcFun _ _ _ _ _; refine call_eq rfl (by repeat' (first | trivial | refine And.intro ?_ ?_ | (show 0 + _ ≤ List.length _; simp))) ALeL.refl (c_ck2 r) rfl ?_) | (change vcFun _ _ _ _ _; refine call_eq rfl (by repeat' (first | trivial | refine And.intro ?_ ?_ | (show 0 + _ ≤ List.length _; simp))) ALeL.refl (c_ck3 r) rfl ?_) | (change vcFun _ _ _ _ _; refine call_eq rfl (by repeat' (first | trivial | refine And.intro ?_ ?_ | (show 0 + _ ≤ List.length _; simp))) ALeL.refl (c_ck4 r) rfl ?_) | (change vcFun _ _ _ _ _; refine call_eq rfl (by repeat' (first | trivial | refine And.intro ?_ ?_ | (show 0 + _ ≤ List.length _; simp))) ALeL.refl (c_ck5 r) rfl ?_) | (change vcFun _ _ _ _ _; refine call_eq rfl (by repeat' (first | trivial | refine And.intro ?_ ?_ | (show 0 + _ ≤ List.length _; simp))) ALeL.refl (c_ck6 r) rfl ?_) | (change vcFun _ _ _ _ _; refine call_eq rfl (by repeat' (first | trivial | refine And.intro ?_ ?_ | (show 0 + _ ≤ List.length _; simp))) ALeL.refl (c_ck7 r) rfl ?_) | (change vcFun _ _ _ _ _; refine call_eq rfl (by repeat' (first | trivial | refine And.intro ?_ ?_ | (show 0 + _ ≤ List.length _; simp))) ALeL.refl (c_ck8 r) rfl ?_) | (refine ⟨0, rfl, Nat.le_of_ble_eq_true rfl, eqv_rfl ?_⟩) | (refine ⟨1, rfl, Nat.le_of_ble_eq_true rfl, eqv_rfl ?_⟩) | (refine ⟨2, rfl, Nat.le_of_ble_eq_true rfl, eqv_rfl ?_⟩) | (refine ⟨3, rfl, Nat.le_of_ble_eq_true rfl, eqv_rfl ?_⟩) | (refine ⟨4, rfl, Nat.le_of_ble_eq_true rfl, eqv_rfl ?_⟩) | (refine ⟨5, rfl, Nat.le_of_ble_eq_true rfl, eqv_rfl ?_⟩) | (refine ⟨6, rfl, Nat.le_of_ble_eq_true rfl, eqv_rfl ?_⟩) | (refine ⟨7, rfl, Nat.le_of_ble_eq_true rfl, eqv_rfl ?_⟩) | (refine load_at _ rfl ?_) | fail)
  all_goals try exact vi2 (rE1' (by unfold partsE; simp [orI, *]) (by assumption))
  have h0 : orI (partsE r) = 0 := by unfold partsE; simp [orI, *]
  have hs : RegS r := regS_of (by assumption) (by assumption) (by assumption) (by assumption) (by assumption)
  have hb1 : PCall Tryz.prog 61 [.pv (.sl 9 (r.classes.map Class.row)), .pv (.fn 62 [.ia r.cells])] (fun a => a = vbool (unk1 r)) := c_any_class r.classes 62 [.ia r.cells] (fun c => !staffB r.staff c.staff) hs.lens.classes (fun c hc => c_ck9 r hs.lens c (hs.cls c hc).1)
  have hb2 : PCall Tryz.prog 64 [.pv (.sl 2 (r.curris.map Curri.row)), .pv (.fn 65 [.ia r.cells])] (fun a => a = vbool (unk2 r)) := c_any_curri r.curris 65 [.ia r.cells] (fun c => !taughtB r.classes c.courses) hs.lens.curris (fun c hc => c_ck10 r hs.lens c (hs.cur c hc))
  have hb3 : PCall Tryz.prog 67 [.pv (.sl 4 (r.reqs.map Req.row)), .pv (.fn 68 [.ia r.cells])] (fun a => a = vbool (unk3 r)) := c_any_req r.reqs 68 [.ia r.cells] (fun q => !askedB r.classes q) (by have := hs.reqs; omega) (fun q hq => c_ck11 r hs.lens q (hs.ins q hq))
  repeat' (first | refine o1 ?_ | refine o2 ?_ | refine k1 ?_ | refine k2 ?_ | refine k3 ?_ | refine k6 ?_ | refine k7 ?_ | refine And.intro ?_ ?_ | (intro h; first | exact Bool.noConfusion h | exact nz _ h | exact nl h | (simp at h; done) | (simp at h; first | (exfalso; omega) | skip) | skip) | (change retOk _ _ _ _; refine ret_pure rfl trivial ?_) | (change vcFun _ _ _ _ _; refine call_eq rfl (by repeat' (first | trivial | refine And.intro ?_ ?_ | (show 0 + _ ≤ List.length _; simp))) ALeL.refl (hb1) rfl ?_) | (change vcFun _ _ _ _ _; refine call_eq rfl (by repeat' (first | trivial | refine And.intro ?_ ?_ | (show 0 + _ ≤ List.length _; simp))) ALeL.refl (hb2) rfl ?_) | (change vcFun _ _ _ _ _; refine call_eq rfl (by repeat' (first | trivial | refine And.intro ?_ ?_ | (show 0 + _ ≤ List.length _; simp))) ALeL.refl (hb3) rfl ?_) | fail)
  all_goals first
    | exact vi (rE2' h0 (by unfold unknownB; simp [*]))
    | exact vi (rE3' h0 (by unfold unknownB; simp [*]))
theorem unk_1 {r : Reg} (h : (r.classes.any fun c => !staffB r.staff c.staff) = true) : unknownB r = true := by
  have h : unk1 r = true := h
  unfold unknownB; simp [h]
theorem unk_2 {r : Reg} (h : (r.curris.any fun c => !taughtB r.classes c.courses) = true) : unknownB r = true := by
  have h : unk2 r = true := h
  unfold unknownB; simp [h]
theorem unk_3 {r : Reg} (h : (r.reqs.any fun q => !askedB r.classes q) = true) : unknownB r = true := by
  have h : unk3 r = true := h
  unfold unknownB; simp [h]
theorem c_rcheckR (r : Reg) : PCall Tryz.prog 25 [ag r.cells] (fun a => a = vint .i64 (regE r)) := by
  refine acall_of tok mixed 124 rfl (fn := Tryz.f25) (c := Tryz.f25.body.getD .skip) (by kernel_rfl) (by kernel_rfl) (by kernel_rfl) rfl 0 rfl ?_
  repeat' (first | refine o1 ?_ | refine o2 ?_ | refine k1 ?_ | refine k2 ?_ | refine k4 ?_ | refine And.intro ?_ ?_ | refine o3 ?_ | refine o4 ?_ | exact (by kernel_rfl : drawOk _ _ = true) | (change vcFunD _ _ _ _ _; refine callD_eq rfl (by repeat' (first | trivial | refine And.intro ?_ ?_ | (show 0 + _ ≤ List.length _; simp))) ALeL.refl (c_rgrid r.grid) rfl ?_) | (change vcFunD _ _ _ _ _; refine callD_eq rfl (by repeat' (first | trivial | refine And.intro ?_ ?_ | (show 0 + _ ≤ List.length _; simp))) ALeL.refl (c_rterm r.term) rfl ?_) | (change vcFunD _ _ _ _ _; refine callD_eq rfl (by repeat' (first | trivial | refine And.intro ?_ ?_ | (show 0 + _ ≤ List.length _; simp))) ALeL.refl (c_rrooms r.rooms r.grid r.term.weeks) rfl ?_) | (change vcFunD _ _ _ _ _; refine callD_eq rfl (by repeat' (first | trivial | refine And.intro ?_ ?_ | (show 0 + _ ≤ List.length _; simp))) ALeL.refl (c_rtravel r.travel) rfl ?_) | (change vcFunD _ _ _ _ _; refine callD_eq rfl (by repeat' (first | trivial | refine And.intro ?_ ?_ | (show 0 + _ ≤ List.length _; simp))) ALeL.refl (c_rstaff r.staff r.grid r.term.weeks) rfl ?_) | (change vcFunD _ _ _ _ _; refine callD_eq rfl (by repeat' (first | trivial | refine And.intro ?_ ?_ | (show 0 + _ ≤ List.length _; simp))) ALeL.refl (c_rclasses r.classes r.grid r.term.weeks) rfl ?_) | (change vcFunD _ _ _ _ _; refine callD_eq rfl (by repeat' (first | trivial | refine And.intro ?_ ?_ | (show 0 + _ ≤ List.length _; simp))) ALeL.refl (c_rcurris r.curris) rfl ?_) | (change vcFunD _ _ _ _ _; refine callD_eq rfl (by repeat' (first | trivial | refine And.intro ?_ ?_ | (show 0 + _ ≤ List.length _; simp))) ALeL.refl (c_rreqs r.reqs) rfl ?_) | fail)
  refine code_rounds 9 ?_
  change xCode _ _ _ _ _ _ _ _
  repeat' (first | ((change xCode _ _ _ _ _ _ _ _; refine k1 ?_)) | refine o1 ?_ | refine o2 ?_ | refine k2 ?_ | refine k3 ?_ | refine k4 ?_ | refine k6 ?_ | refine k7 ?_ | refine k8 ?_ | refine And.intro ?_ ?_ | (intro h; first | exact Bool.noConfusion h | exact nz _ h | exact nl h | (simp at h; done) | (simp at h; first | (exfalso; omega) | skip) | skip) | (change retOk _ _ _ _; refine ret_pure rfl trivial ?_) | refine eqv_wrap (by omega) (by omega) ?_ | (refine ⟨0, rfl, Nat.le_of_ble_eq_true rfl, eqv_rfl ?_⟩) | (refine ⟨1, rfl, Nat.le_of_ble_eq_true rfl, eqv_rfl ?_⟩) | (refine ⟨2, rfl, Nat.le_of_ble_eq_true rfl, eqv_rfl ?_⟩) | (refine ⟨3, rfl, Nat.le_of_ble_eq_true rfl, eqv_rfl ?_⟩) | (refine ⟨4, rfl, Nat.le_of_ble_eq_true rfl, eqv_rfl ?_⟩) | (refine ⟨5, rfl, Nat.le_of_ble_eq_true rfl, eqv_rfl ?_⟩) | (refine ⟨6, rfl, Nat.le_of_ble_eq_true rfl, eqv_rfl ?_⟩) | (refine ⟨7, rfl, Nat.le_of_ble_eq_true rfl, eqv_rfl ?_⟩) | (refine load_at _ rfl ?_) | fail)
  all_goals try exact vi2 (rE1' (by unfold partsE; simp [orI, *]) (by assumption))
  have h0 : orI (partsE r) = 0 := by unfold partsE; simp [orI, *]
  have hs : RegS r := regS_of (by assumption) (by assumption) (by assumption) (by assumption) (by assumption)
  have hz1 := hs.lens.classes
  have hz2 := hs.lens.curris
  have hz3 := hs.reqs
  refine loop_at (fun i : Nat => [(6, vint .i64 i)]) (fun _ => []) (fun i => i ≤ r.classes.length ∧ ∀ j, j < i → ∀ x, r.classes[j]? = some x → staffB r.staff x.staff = true) (fun i => r.classes.length - i) 0 ⟨by omega, fun j hj => by omega⟩ (by repeat' (first | exact trivial | exact ⟨_, rfl, ALe.refl⟩ | refine And.intro ?_ ?_)) (by repeat' (first | exact trivial | exact rfl | refine And.intro ?_ ?_)) ?_
  intro i ⟨hi, hall⟩
  rcases Nat.lt_or_ge i r.classes.length with hlt | hge
  · obtain ⟨x, hx⟩ := getE hlt
    have hm := List.mem_of_getElem? hx
    have hc := c_rstaffed x r.staff (hs.cls x hm).1 hs.lens.staff
    repeat' (first | refine o1 ?_ | refine o2 ?_ | refine k1 ?_ | refine k2 ?_ | refine k3 ?_ | refine k4 ?_ | refine k6 ?_ | refine k7 ?_ | refine And.intro ?_ ?_ | refine o3 ?_ | refine o4 ?_ | (intro h; first | exact Bool.noConfusion h | exact nz _ h | exact nl h | (simp at h; done) | (simp at h; first | (exfalso; omega) | skip) | skip) | (change retOk _ _ _ _; refine ret_pure rfl trivial ?_) | exact (by kernel_rfl : drawOk _ _ = true) | refine eqv_len_map ?_ | refine eqv_wrap (by omega) (by omega) ?_ | refine ⟨_, _, (by first | rfl | assumption), at_map (by assumption), ?_⟩ | (change vcFunD _ _ _ _ _; refine callD_eq rfl (by repeat' (first | trivial | refine And.intro ?_ ?_ | (show 0 + _ ≤ List.length _; simp))) ALeL.refl (hc) rfl ?_) | fail)
    all_goals first
      | exact vi (rE2' h0 (unk_1 (List.any_eq_true.2 ⟨x, hm, by simp [*, askedB]⟩)))
      | exact ⟨i + 1, ⟨by omega, all_lt_succ hall fun x' h' => by rw [hx] at h'; cases h'; first | assumption | simp [*, askedB]⟩, by omega, back [0, 1] rfl rfl ⟨rfl, rfl, trivial⟩ (by repeat' (first | exact trivial | exact rfl | refine And.intro ?_ ?_))⟩
  have hu1 : unk1 r = false := List.any_eq_false.2 fun x hm => by obtain ⟨j, hj⟩ := List.getElem?_of_mem hm; simp [hall j (by have := (List.getElem?_eq_some_iff.1 hj).1; omega) x hj]
  repeat' (first | refine o1 ?_ | refine o2 ?_ | refine k1 ?_ | refine k2 ?_ | refine k3 ?_ | refine k4 ?_ | refine k8 ?_ | refine And.intro ?_ ?_ | (intro h; first | exact Bool.noConfusion h | exact nz _ h | exact nl h | (simp at h; done) | (simp at h; first | (exfalso; omega) | skip) | skip) | refine eqv_len_map ?_ | fail)
  refine loop_at (fun i : Nat => [(7, vint .i64 i)]) (fun _ => []) (fun i => i ≤ r.curris.length ∧ ∀ j, j < i → ∀ x, r.curris[j]? = some x → taughtB r.classes x.courses = true) (fun i => r.curris.length - i) 0 ⟨by omega, fun j hj => by omega⟩ (by repeat' (first | exact trivial | exact ⟨_, rfl, ALe.refl⟩ | refine And.intro ?_ ?_)) (by repeat' (first | exact trivial | exact rfl | refine And.intro ?_ ?_)) ?_
  intro i ⟨hi, hall⟩
  rcases Nat.lt_or_ge i r.curris.length with hlt | hge
  · obtain ⟨x, hx⟩ := getE hlt
    have hm := List.mem_of_getElem? hx
    have hc := c_rtaught x.courses r.classes (hs.cur x hm) hs.lens.classes
    repeat' (first | refine o1 ?_ | refine o2 ?_ | refine k1 ?_ | refine k2 ?_ | refine k3 ?_ | refine k4 ?_ | refine k6 ?_ | refine k7 ?_ | refine And.intro ?_ ?_ | refine o3 ?_ | refine o4 ?_ | (intro h; first | exact Bool.noConfusion h | exact nz _ h | exact nl h | (simp at h; done) | (simp at h; first | (exfalso; omega) | skip) | skip) | (change retOk _ _ _ _; refine ret_pure rfl trivial ?_) | exact (by kernel_rfl : drawOk _ _ = true) | refine eqv_len_map ?_ | refine eqv_wrap (by omega) (by omega) ?_ | refine ⟨_, _, (by first | rfl | assumption), at_map (by assumption), ?_⟩ | (change vcFunD _ _ _ _ _; refine callD_eq rfl (by repeat' (first | trivial | refine And.intro ?_ ?_ | (show 0 + _ ≤ List.length _; simp))) ALeL.refl (hc) rfl ?_) | fail)
    all_goals first
      | exact vi (rE2' h0 (unk_2 (List.any_eq_true.2 ⟨x, hm, by simp [*, askedB]⟩)))
      | exact ⟨i + 1, ⟨by omega, all_lt_succ hall fun x' h' => by rw [hx] at h'; cases h'; first | assumption | simp [*, askedB]⟩, by omega, back [0, 1] rfl rfl ⟨rfl, rfl, trivial⟩ (by repeat' (first | exact trivial | exact rfl | refine And.intro ?_ ?_))⟩
  have hu2 : unk2 r = false := List.any_eq_false.2 fun x hm => by obtain ⟨j, hj⟩ := List.getElem?_of_mem hm; simp [hall j (by have := (List.getElem?_eq_some_iff.1 hj).1; omega) x hj]
  repeat' (first | refine o1 ?_ | refine o2 ?_ | refine k1 ?_ | refine k2 ?_ | refine k3 ?_ | refine k4 ?_ | refine k8 ?_ | refine And.intro ?_ ?_ | (intro h; first | exact Bool.noConfusion h | exact nz _ h | exact nl h | (simp at h; done) | (simp at h; first | (exfalso; omega) | skip) | skip) | refine eqv_len_map ?_ | fail)
  have hreq := hs.reqs
  refine loop_at (fun i : Nat => [(8, vint .i64 i)]) (fun _ => []) (fun i => i ≤ r.reqs.length ∧ ∀ j, j < i → ∀ x, r.reqs[j]? = some x → askedB r.classes x = true) (fun i => r.reqs.length - i) 0 ⟨by omega, fun j hj => by omega⟩ (by repeat' (first | exact trivial | exact ⟨_, rfl, ALe.refl⟩ | refine And.intro ?_ ?_)) (by repeat' (first | exact trivial | exact rfl | refine And.intro ?_ ?_)) ?_
  intro i ⟨hi, hall⟩
  rcases Nat.lt_or_ge i r.reqs.length with hlt | hge
  · obtain ⟨x, hx⟩ := getE hlt
    have hm := List.mem_of_getElem? hx
    have hc := c_rtaught [x.course] r.classes (by simp) hs.lens.classes
    have hc2 := c_rtaught x.instead r.classes (hs.ins x hm) hs.lens.classes
    repeat' (first | refine o1 ?_ | refine o2 ?_ | refine k1 ?_ | refine k2 ?_ | refine k3 ?_ | refine k4 ?_ | refine k6 ?_ | refine k7 ?_ | refine And.intro ?_ ?_ | refine o3 ?_ | refine o4 ?_ | (intro h; first | exact Bool.noConfusion h | exact nz _ h | exact nl h | (simp at h; done) | (simp at h; first | (exfalso; omega) | skip) | skip) | (change retOk _ _ _ _; refine ret_pure rfl trivial ?_) | exact (by kernel_rfl : drawOk _ _ = true) | refine eqv_len_map ?_ | refine eqv_wrap (by omega) (by omega) ?_ | refine ⟨_, _, (by first | rfl | assumption), at_map (by assumption), ?_⟩ | (change vcFunD _ _ _ _ _; refine callD_eq rfl (by repeat' (first | trivial | refine And.intro ?_ ?_ | (show 0 + _ ≤ List.length _; simp))) ALeL.refl (hc) rfl ?_) | (change vcFunD _ _ _ _ _; refine callD_eq rfl (by repeat' (first | trivial | refine And.intro ?_ ?_ | (show 0 + _ ≤ List.length _; simp))) ALeL.refl (hc2) rfl ?_) | fail)
    all_goals first
      | exact vi (rE2' h0 (unk_3 (List.any_eq_true.2 ⟨x, hm, by simp [*, askedB]⟩)))
      | exact ⟨i + 1, ⟨by omega, all_lt_succ hall fun x' h' => by rw [hx] at h'; cases h'; first | assumption | simp [*, askedB]⟩, by omega, back [0, 1] rfl rfl ⟨rfl, rfl, trivial⟩ (by repeat' (first | exact trivial | exact rfl | refine And.intro ?_ ?_))⟩
  have hu3 : unk3 r = false := List.any_eq_false.2 fun x hm => by obtain ⟨j, hj⟩ := List.getElem?_of_mem hm; simp [hall j (by have := (List.getElem?_eq_some_iff.1 hj).1; omega) x hj]
  repeat' (first | refine o1 ?_ | refine o2 ?_ | refine k1 ?_ | refine k2 ?_ | refine k3 ?_ | refine k7 ?_ | refine k8 ?_ | refine And.intro ?_ ?_ | (intro h; first | exact Bool.noConfusion h | exact nz _ h | exact nl h | (simp at h; done) | (simp at h; first | (exfalso; omega) | skip) | skip) | (change retOk _ _ _ _; refine ret_pure rfl trivial ?_) | refine eqv_len_map ?_ | fail)
  exact vi (rE3' h0 (by unfold unknownB; simp [*]))
end Go.Proofs.YtkbaecjnhmbeeaaGreat.Cw
/-
  Slices that grow by append, nil or not: they need no cases.
-/
namespace Go.Proofs.YtkbaecjnhmbeeaaGreat.Cw
open Go Go.Cw Go.Proofs
set_option linter.unusedVariables false
theorem map_snoc {α β : Type} {f : α → β} {l : List α} {x : α} : (l ++ [x]).map f = l.map f ++ [f x] := by simp
section
variable {P : Program} {T : Tab} {id z ty : Nat} {rows : List (List PV)} {r : List PV}
theorem fv_sl {K : AV → Prop} (h : K (slP id z rows)) : forceV (slP id z rows) K := by
  cases rows <;> exact h
theorem fh_ob {l : Heap} {K : Heap → Prop} (h : forceH l fun l' => K (obP ty z rows :: l')) : forceH (obP ty z rows :: l) K := by
  rw [forceH_eq] at *
  exact h
theorem knOut_mono : ∀ (dc : Known) {d : Nat} (A B : Known → Prop), (∀ d2, A d2 → B d2) → knOut dc d A → knOut dc d B
  | [], d, A, B, hab, ha => hab _ ha
  | (k, bb) :: dc, d, A, B, hab, ha => by
    simp only [knOut] at ha ⊢
    split
    · rename_i hk; rw [hk] at ha; exact knOut_mono dc A B hab ha
    · rename_i hk; rw [hk] at ha; exact knOut_mono dc _ _ (fun d2 h2 => hab _ h2) ha
theorem sl_app (a : List (List PV)) (x : List PV) : slP id z (a ++ [x]) = .ms id z 0 (a.length + 1) := by
  cases a with
  | nil => rfl
  | cons b l => simp [slP]
theorem ob_app (a : List (List PV)) (x : List PV) : obP ty z (a ++ [x]) = some ⟨ty, z, false, .p (a ++ [x])⟩ := by
  cases a <;> rfl
theorem app_none {H : Heap} {i site : Nat} {o : Option AObj} (h : H[i]? = some none) : app H [(i, none), (site, o)] = app H [(site, o)] := by
  have : H.set i none = H := by
    apply List.ext_getElem?
    intro k
    rw [List.getElem?_set]
    by_cases e : i = k
    · subst e
      obtain ⟨h1, h2⟩ := List.getElem?_eq_some_iff.1 h
      rw [if_pos rfl, if_pos h1, h]
    · simp [e]
  simp only [app, this]
theorem st_app {site idx b size bytes : Nat} {agg eagg fz : Bool} {zero ezero : List PV} {etk : TK} {s x : Operand} {t : TypeId} {d : Tmp} {Γ : Slots} {H : Heap} {K : Slots → Heap → Prop} (hs : ev Γ s = some (slP id z rows)) (hx : ev Γ x = some (.ms idx z 0 1)) (hl : Cw.look T t = some ⟨size, bytes, agg, .slice ty, zero⟩) (he : Cw.look T ty = some ⟨z, b, eagg, etk, ezero⟩) (hz : Nat.blt 0 z = true)
    (hi : H[idx]? = some (some ⟨ty, z, fz, .p [r]⟩)) (ho : H[id]? = some (obP ty z rows)) (hb : (rows.length + 1) * b ≤ 140737488355328) (hn : rows.length + 1 ≤ 9223372036854775807)
    (h : forceH (app H [(id, none), (site, some ⟨ty, z, false, .p (rows ++ [r])⟩)]) fun H2 => K ((d, .ms site z 0 (rows.length + 1)) :: Γ) H2) :
    vcStep P T site (some d) (.call { callee := .builtin .append, args := #[s, x], argTypes := #[t, t] }) Γ H K := by
  have hbq : Nat.beq t t = true := Nat.beq_refl t
  have hzz : Nat.beq z z = true := Nat.beq_refl z
  have hty : Nat.beq ty ty = true := Nat.beq_refl ty
  rw [forceH_eq] at h
  cases rows with
  | nil =>
    rw [app_none ho] at h
    simp only [vcStep, vcOp, hbq, hs, hx, vcAppend, hl, he, srcOk, hzz, hz, srcRows, hi, Bool.and_self, Bool.true_and, slP, nilA, eqv_eq, putK, forceV, appK, forceH_eq]
    refine Or.inl ?_
    refine ⟨rfl, by simpa [rowsLen] using hb, by simp [rowsLen], fun _ => ?_, fun e => by simp [rowsLen] at e⟩
    exact h
  | cons a l =>
    simp only [vcStep, vcOp, hbq, hs, hx, vcAppend, hl, he, srcOk, hzz, hz, srcRows, hi, ho, obP, Bool.and_self, Bool.true_and, slP, eqv_eq, putK, forceV, appK, forceH_eq, Bool.not_false, hty, dropR, catRows, List.drop_zero]
    refine Or.inl ?_
    refine ⟨by simp [rowsLen], rfl, by simpa [rowsLen] using hb, by simpa [rowsLen] using hn, ?_⟩
    have e : rowsLen (.p (a :: l ++ List.take 1 [r])) = (a :: l).length + 1 := by simp [rowsLen]
    rw [e]
    exact h
theorem o_app {n site idx b size bytes : Nat} {agg eagg fz : Bool} {zero ezero : List PV} {etk : TK} {s x : Operand} {t : TypeId} {d : Tmp} {Γ : Slots} {H : Heap} {K : Slots → Heap → Prop} {o : Oper} {all l : List Oper} {dc : Known}
    (hop : o.op = .call { callee := .builtin .append, args := #[s, x], argTypes := #[t, t] }) (hg : o.guard = none) (hd : o.dst = some d) (hdn : Nat.blt d n = true) (hs : ev Γ s = some (slP id z rows)) (hx : ev Γ x = some (.ms idx z 0 1)) (hl : Cw.look T t = some ⟨size, bytes, agg, .slice ty, zero⟩) (he : Cw.look T ty = some ⟨z, b, eagg, etk, ezero⟩) (hz : Nat.blt 0 z = true)
    (hi : H[idx]? = some (some ⟨ty, z, fz, .p [r]⟩)) (ho : H[id]? = some (obP ty z rows)) (hb : (rows.length + 1) * b ≤ 140737488355328) (hn : rows.length + 1 ≤ 9223372036854775807)
    (h : knOut dc d fun d2 => forceH (app H [(id, none), (site, some ⟨ty, z, false, .p (rows ++ [r])⟩)]) fun H2 => xOps P T n all l (site + 1) K d2 ((d, .ms site z 0 (rows.length + 1)) :: Γ) H2) :
    xOps P T n all (o :: l) site K dc Γ H := by
  refine ops_cons ?_
  have e1 : dstOk n o = true := by unfold dstOk; rw [hd]; exact hdn
  have e2 : isAlloc o.op = true := by rw [hop]; rfl
  rw [e1, e2]
  show vcGuard all Γ dc o.guard _ _
  rw [hg]
  simp only [vcGuard, knPut, hd, hop, knRes, simpOp]
  have key : ∀ d2, (forceH (app H [(id, none), (site, some ⟨ty, z, false, .p (rows ++ [r])⟩)]) fun H2 => xOps P T n all l (site + 1) K d2 ((d, .ms site z 0 (rows.length + 1)) :: Γ) H2) → vcStep P T site (some d) (.call { callee := .builtin .append, args := #[s, x], argTypes := #[t, t] }) Γ H (xOps P T n all l (site + 1) K d2) := fun d2 hh =>
    st_app hs hx hl he hz hi ho hb hn hh
  have mono : ∀ (dc : Known) (A B : Known → Prop), (∀ d2, A d2 → B d2) → knOut dc d A → knOut dc d B := by
    intro dc
    induction dc with
    | nil => intro A B hab ha; exact hab _ ha
    | cons q dc ih =>
      obtain ⟨k, bb⟩ := q
      intro A B hab ha
      simp only [knOut] at ha ⊢
      split
      · rename_i hk; rw [hk] at ha; exact ih A B hab ha
      · rename_i hk; rw [hk] at ha; exact ih _ _ (fun d2 h2 => hab _ h2) ha
  exact mono dc _ _ key h
theorem ren_sl {d : Nat} {rn : List Nat} : renC d rn (slP id z rows) = slP (rn.getD id d) z rows := by
  cases rows <;> simp [slP, nilA, renC]
theorem ren_get {d : Nat} {rn : List Nat} {Γ : Slots} {s : Nat} (h : get Γ s = some (slP (rn.getD id d) z rows)) : get Γ s = some (renC d rn (slP id z rows)) := by rw [ren_sl]; exact h
theorem kept_ob {H Hc : Heap} {d i : Nat} {rn l : List Nat} (h : H[i]? = some (obP ty z rows)) (hk : kept H d rn l Hc) : kept H d rn (i :: l) (obP ty z rows :: Hc) := by
  cases rows with
  | nil => exact hk
  | cons a l' => exact ⟨h, hk⟩
theorem loop_for {n nh : Nat} {a : Code} {Q : Exit → Slots → Heap → Prop} {Γ : Slots} {H : Heap} {X : Type} (g : X → Slots) (hp : X → Heap) (cond : X → Prop) (μ : X → Nat) (x0 : X) (h0 : cond x0) (he : Ghost n nh Γ H (g x0) (hp x0))
    (hb : ∀ x, cond x → forceH (hp x) fun H1 => xCode P T n nh a (thenQ (fun Γ' H' => ∃ x', cond x' ∧ μ x' < μ x ∧ Ghost n nh Γ' H' (g x') (hp x')) Q) (g x) H1) : xCode P T n nh (.loop a) Q Γ H := by
  refine code_loop (fun x => ⟨g x, hp x⟩) cond μ ⟨x0, h0, he⟩ fun x hx => ?_
  have := hb x hx
  rw [forceH_eq] at this
  exact this
theorem conv_sl {H : Heap} (ho : H[id]? = some (obP ty z rows)) : ∃ r0, conv H (slP id z rows) = some r0 ∧ ok1 H (slP id z rows) ∧ ALe r0 (.pv (.sl z rows)) := by
  cases rows with
  | nil => exact ⟨_, rfl, trivial, ALe.pv PLe.nil⟩
  | cons a l =>
    refine ⟨.pv (.sl z (a :: l)), ?_, ?_, ALe.refl⟩
    · simp only [slP, conv, conv1, convC, ho, obP]
      simp
    · simp only [slP, ok1, ok0, okC, ho, obP]
      simp
theorem subH_refl : ∀ H : Heap, subH H H
  | [] => trivial
  | none :: l => subH_refl l
  | some o :: l => ⟨rfl, subH_refl l⟩
theorem ret_sl {H : Heap} {Post : AV → Prop} (ho : H[id]? = some (obP ty z rows)) (h : Post (.pv (.sl z rows))) (hp : ∀ r r', ALe r r' → Post r' → Post r) : retOk 0 (slP id z rows) H (fun r H' => H' = [] ∧ Post r) := by
  obtain ⟨r0, h1, h2, h3⟩ := conv_sl ho
  exact ret_pure h1 h2 (hp _ _ h3 h)
theorem ret_sl2 {H : Heap} {q : PV} {x : AV} (ho : H[id]? = some (obP ty z rows)) (h : x = .tup [.pv (.sl z rows), .pv q]) : retOk 0 (.tup [slP id z rows, .pv q]) H (fun r H' => H' = [] ∧ Leq r x) := by
  subst h
  cases rows with
  | nil => exact ret_pure (r0 := .tup [.pv (.val (.slice none 0 0)), .pv q]) rfl (by repeat' (first | exact trivial | refine And.intro ?_ ?_)) ⟨ALe.tup ⟨ALe.pv PLe.nil, ALe.refl, trivial⟩⟩
  | cons a l =>
    refine ret_pure (r0 := .tup [.pv (.sl z (a :: l)), .pv q]) ?_ ?_ ⟨ALe.refl⟩
    · simp only [slP, conv, mapO, conv1, convC, ho, obP]
      simp
    · simp only [slP, ok1, andL, ok0, okC, ho, obP]
      simp
theorem leq_down {x : AV} : ∀ r r', ALe r r' → Leq r' x → Leq r x := fun r r' h k => ⟨fun I β w v hv => k.le I β w v (h I β w v hv)⟩
end
end Go.Proofs.YtkbaecjnhmbeeaaGreat.Cw
/-
  Contracts: starts and times of classes.
-/
namespace Go.Proofs.YtkbaecjnhmbeeaaGreat.Cw
open Go.Cw Go.Proofs
set_option linter.unusedVariables false
set_option maxRecDepth 100000
set_option maxHeartbeats 4000000
def gr {α : Type} (F : Nat → List α) (i : Nat) : List α := (List.range i).flatMap F
theorem take_snoc {α : Type} {l : List α} {k : Nat} {x : α} (h : l[k]? = some x) : l.take (k + 1) = l.take k ++ [x] := by
  obtain ⟨h1, h2⟩ := List.getElem?_eq_some_iff.1 h
  rw [List.take_succ_eq_append_getElem h1, h2]
def allF (n : Int) (g : Grid) (d : Nat) : List Start := (List.range (g.slots - n + 1).toNat).map fun s : Nat => (⟨d, s⟩ : Start)
def allS (n : Int) (g : Grid) : List Start := gr (allF n g) g.days.toNat
end Go.Proofs.YtkbaecjnhmbeeaaGreat.Cw
/-
  Selections: their data, and what a valid one is; the reference's depth, parts and Sound.
-/
namespace Go.Proofs.YtkbaecjnhmbeeaaGreat.Cw
open Go.Cw Go.Proofs
set_option linter.unusedVariables false
set_option maxRecDepth 100000
set_option maxHeartbeats 4000000
inductive Sel where
  | mk (kind : Int) (name : Str) (kids : List Sel)
def Sel.kind : Sel → Int
  | .mk k _ _ => k
def Sel.name : Sel → Str
  | .mk _ n _ => n
def Sel.kids : Sel → List Sel
  | .mk _ _ l => l
mutual
def Sel.row : Sel → List PV
  | .mk k n l => [ei k, es n, .sl 3 (selRows l)]
def selRows : List Sel → List (List PV)
  | [] => []
  | s :: l => s.row :: selRows l
end
theorem selRows_map : ∀ l : List Sel, selRows l = l.map Sel.row
  | [] => rfl
  | s :: l => by rw [selRows, selRows_map l]; rfl
theorem row_mk {k : Int} {n : Str} {l : List Sel} : Sel.row (.mk k n l) = [ei k, es n, .sl 3 (l.map Sel.row)] := by rw [Sel.row, selRows_map]
inductive SelL : Sel → Prop where
  | mk {k : Int} {n : Str} {l : List Sel} (hl : l.length ≤ 9223372036854775807) (h : ∀ q ∈ l, SelL q) : SelL (.mk k n l)
-- How deep a selection is nested, how many parts it has, and whether its parts are right.
mutual
def dep : Sel → Nat
  | .mk _ _ l => depL l + 1
def depL : List Sel → Nat
  | [] => 0
  | q :: l => max (dep q) (depL l)
end
mutual
def size : Sel → Nat
  | .mk _ _ l => sizeL l + 1
def sizeL : List Sel → Nat
  | [] => 0
  | q :: l => size q + sizeL l
end
def nameE (n : Str) : Bool := sEq n ⟨#[]⟩
noncomputable def formB (k : Int) (n : Str) (m : Nat) : Bool :=
  if k = 1 then nameE n && ((m : Int) == 0) else if 2 ≤ k ∧ k ≤ 7 then pB (codeP n) && ((m : Int) == 0) else if k = 8 ∨ k = 9 then nameE n && decide ((m : Int) ≥ 2) else decide (k = 10) && nameE n && ((m : Int) == 1)
mutual
noncomputable def soundB : Sel → Bool
  | .mk k n l => soundL l && formB k n l.length
noncomputable def soundL : List Sel → Bool
  | [] => true
  | q :: l => soundB q && soundL l
end
theorem soundL_all : ∀ l : List Sel, soundL l = l.all soundB
  | [] => rfl
  | q :: l => by rw [soundL, soundL_all l]; rfl
theorem depL_mem : ∀ {l : List Sel} {q : Sel}, q ∈ l → dep q ≤ depL l
  | x :: l, q, h => by
    rw [depL]
    rcases List.mem_cons.1 h with rfl | h
    · omega
    · have := depL_mem h; omega
theorem dep_pos (s : Sel) : 1 ≤ dep s := by obtain ⟨k, n, l⟩ := s; rw [dep]; omega
def selP (s : Sel) : Prop := dep s ≤ 8 ∧ size s ≤ 64 ∧ soundB s = true
def depthV : Nat → Sel → Int
  | 0, _ => 0
  | 1, _ => 1
  | m + 2, s => (s.kids.map (depthV (m + 1))).foldl max 0 + 1
def maxD (m : Nat) (l : List Sel) (i : Nat) : Int := ((l.take i).map (depthV m)).foldl max 0
theorem maxD_succ {m : Nat} {l : List Sel} {i : Nat} {q : Sel} (h : l[i]? = some q) : maxD m l (i + 1) = if depthV m q > maxD m l i then depthV m q else maxD m l i := by
  have e : maxD m l (i + 1) = max (maxD m l i) (depthV m q) := by unfold maxD; rw [take_snoc h, List.map_append, List.foldl_append]; rfl
  rw [e]; split <;> omega
theorem foldl_max : ∀ (l : List Sel) (m : Nat) (a : Nat), (∀ q, depthV m q = ((min m (dep q) : Nat) : Int)) → (l.map (depthV m)).foldl max ((min m a : Nat) : Int) = ((min m (max a (depL l)) : Nat) : Int)
  | [], m, a, h => by simp [depL]
  | q :: l, m, a, h => by
    rw [List.map_cons, List.foldl_cons, h q, depL]
    have e : max (((min m a : Nat) : Int)) ((min m (dep q) : Nat) : Int) = ((min m (max a (dep q)) : Nat) : Int) := by omega
    rw [e, foldl_max l m (max a (dep q)) h]
    congr 2
    omega
theorem depthV_eq : ∀ (m : Nat) (s : Sel), depthV m s = ((min m (dep s) : Nat) : Int)
  | 0, s => by simp [depthV]
  | 1, s => by have := dep_pos s; rw [depthV]; omega
  | m + 2, .mk k n l => by
    rw [depthV, dep]
    have h := foldl_max l (m + 1) 0 (depthV_eq (m + 1))
    have e : ((min (m + 1) 0 : Nat) : Int) = 0 := by omega
    rw [e] at h
    show (l.map (depthV (m + 1))).foldl max 0 + 1 = _
    rw [h]
    omega
theorem c_depth : ∀ (m : Nat) (hm : m ≤ 101) (s : Sel) (hs : SelL s), PCall Tryz.prog 118 [ag s.row, vint .i64 (m : Nat)] (fun r => r = vint .i64 (depthV m s))
  | 0, hm, s, hs => by
    obtain ⟨k, n, l⟩ := s
    rw [row_mk]
    refine acall_of tok mixed 29 rfl (fn := Tryz.f118) (c := Tryz.f118.body.getD .skip) (by kernel_rfl) (by kernel_rfl) (by kernel_rfl) rfl 0 rfl ?_
    repeat' (first | refine o1 ?_ | refine o2 ?_ | refine k1 ?_ | refine k2 ?_ | refine k3 ?_ | refine k7 ?_ | refine And.intro ?_ ?_ | (intro h; first | exact Bool.noConfusion h | exact nz _ h | exact nl h | (simp at h; done) | (simp at h; first | (exfalso; omega) | skip) | skip) | (change retOk _ _ _ _; refine ret_pure rfl trivial ?_) | fail)
    rfl
  | 1, hm, s, hs => by
    obtain ⟨k, n, l⟩ := s
    rw [row_mk]
    refine acall_of tok mixed 29 rfl (fn := Tryz.f118) (c := Tryz.f118.body.getD .skip) (by kernel_rfl) (by kernel_rfl) (by kernel_rfl) rfl 0 rfl ?_
    repeat' (first | refine o1 ?_ | refine o2 ?_ | refine k1 ?_ | refine k2 ?_ | refine k3 ?_ | refine k7 ?_ | refine And.intro ?_ ?_ | (intro h; first | exact Bool.noConfusion h | exact nz _ h | exact nl h | (simp at h; done) | (simp at h; first | (exfalso; omega) | skip) | skip) | (change retOk _ _ _ _; refine ret_pure rfl trivial ?_) | fail)
    rfl
  | m + 2, hm, s, hs => by
    obtain ⟨k, n, l⟩ := s
    have ih := fun (q : Sel) (hq : SelL q) => (show ((m + 2 : Nat) : Int) - 1 = ((m + 1 : Nat) : Int) by omega) ▸ c_depth (m + 1) (by omega) q hq
    cases hs with
    | mk hl hk =>
      rw [row_mk]
      show PCall _ _ _ (fun r => r = vint .i64 ((l.map (depthV (m + 1))).foldl max 0 + 1))
      have hall : (l.map (depthV (m + 1))).foldl max 0 = maxD (m + 1) l l.length := by unfold maxD; rw [List.take_length]
      rw [hall]
      have hb : ∀ i, 0 ≤ maxD (m + 1) l i ∧ maxD (m + 1) l i ≤ 101 := fun i => by
        have h := foldl_max (l.take i) (m + 1) 0 (depthV_eq (m + 1))
        have e : ((min (m + 1) 0 : Nat) : Int) = 0 := by omega
        rw [e] at h
        unfold maxD; rw [h]; omega
      refine acall_of tok mixed 29 rfl (fn := Tryz.f118) (c := Tryz.f118.body.getD .skip) (by kernel_rfl) (by kernel_rfl) (by kernel_rfl) rfl 0 rfl ?_
      repeat' (first | refine o1 ?_ | refine o2 ?_ | refine k1 ?_ | refine k2 ?_ | refine k3 ?_ | refine k4 ?_ | refine k6 ?_ | refine And.intro ?_ ?_ | (intro h; first | exact Bool.noConfusion h | exact nz _ h | exact nl h | (simp at h; done) | (simp at h; first | (exfalso; omega) | skip) | skip) | fail)
      refine loop_in (fun i : Nat => [(5, vint .i64 (maxD (m + 1) l i)), (6, vint .i64 i)]) (fun _ => [some ⟨52, 3, false, .box (pvs [ei k, es n, .sl 3 (l.map Sel.row)])⟩]) (fun i => i ≤ l.length) (fun i => l.length - i) 0 (Nat.zero_le _) ⟨?_, ?_⟩
      · exact back [0] rfl rfl ⟨rfl, trivial⟩ (by repeat' (first | exact trivial | exact rfl | refine And.intro ?_ ?_))
      intro i hi
      have hbi := hb i
      rcases Nat.lt_or_ge i l.length with hlt | hge
      · obtain ⟨⟨kq, nq, lq⟩, hq⟩ := getE hlt
        have hc := ih _ (hk _ (List.mem_of_getElem? hq))
        repeat' (first | refine o1 ?_ | refine o2 ?_ | refine k1 ?_ | refine k2 ?_ | refine k3 ?_ | refine k4 ?_ | refine k6 ?_ | refine And.intro ?_ ?_ | (intro h; first | exact Bool.noConfusion h | exact nz _ h | exact nl h | (simp at h; done) | (simp at h; first | (exfalso; omega) | skip) | skip) | refine eqv_len_map ?_ | refine eqv_wrap (by omega) (by omega) ?_ | refine ⟨_, _, (by first | rfl | assumption), at_map (by assumption), ?_⟩ | (change vcFun _ _ _ _ _; refine call_eq rfl (by repeat' (first | trivial | refine And.intro ?_ ?_ | (show 0 + _ ≤ List.length _; simp))) ALeL.refl (hc) rfl ?_) | fail)
        refine ⟨i + 1, by omega, by omega, ?_⟩
        rw [maxD_succ hq]
        exact back [0] rfl rfl ⟨rfl, trivial⟩ (by repeat' (first | exact trivial | exact rfl | refine And.intro ?_ ?_))
      obtain rfl : i = l.length := by omega
      repeat' (first | refine o1 ?_ | refine o2 ?_ | refine k1 ?_ | refine k2 ?_ | refine k3 ?_ | refine k7 ?_ | refine k8 ?_ | refine And.intro ?_ ?_ | (intro h; first | exact Bool.noConfusion h | exact nz _ h | exact nl h | (simp at h; done) | (simp at h; first | (exfalso; omega) | skip) | skip) | (change retOk _ _ _ _; refine ret_pure rfl trivial ?_) | refine eqv_len_map ?_ | refine eqv_wrap (by omega) (by omega) ?_ | fail)
      rfl
theorem c_Depth (s : Sel) (hs : SelL s) : PCall Tryz.prog 43 [ag s.row] (fun r => r = vint .i64 ((min 101 (dep s) : Nat) : Int)) := by
  have h := c_depth 101 (by omega) s hs
  rw [depthV_eq] at h
  obtain ⟨k, n, l⟩ := s
  generalize dep (.mk k n l) = D at *
  refine acall_of tok mixed 5 rfl (fn := Tryz.f43) (c := Tryz.f43.body.getD .skip) (by kernel_rfl) (by kernel_rfl) (by kernel_rfl) rfl 0 rfl ?_
  repeat' (first | refine o1 ?_ | refine o2 ?_ | refine k1 ?_ | refine k2 ?_ | refine k7 ?_ | (change retOk _ _ _ _; refine ret_pure rfl trivial ?_) | (change vcFun _ _ _ _ _; refine call_eq rfl (by repeat' (first | trivial | refine And.intro ?_ ?_ | (show 0 + _ ≤ List.length _; simp))) ALeL.refl (h) rfl ?_) | fail)
  rfl
-- The reference's number of parts, at most about 1000.
mutual
def partsV : Sel → Nat
  | .mk _ _ l => partsW 1 l
def partsW : Nat → List Sel → Nat
  | n, [] => n
  | n, q :: l => if n ≤ 1000 then partsW (n + partsV q) l else n
end
def partsI (l : List Sel) (i : Nat) : Nat := partsW 1 (l.take i)
theorem partsW_snoc : ∀ (l : List Sel) (n : Nat) (q : Sel), partsW n (l ++ [q]) = if partsW n l ≤ 1000 then partsW n l + partsV q else partsW n l
  | [], n, q => by by_cases h : n ≤ 1000 <;> simp [partsW, h]
  | x :: l, n, q => by
    rw [List.cons_append, partsW, partsW]
    by_cases h : n ≤ 1000
    · rw [if_pos h, if_pos h]; exact partsW_snoc l _ q
    · rw [if_neg h, if_neg h, if_neg h]
theorem partsI_succ {l : List Sel} {i : Nat} {q : Sel} (h : l[i]? = some q) (h2 : partsI l i ≤ 1000) : partsI l (i + 1) = partsI l i + partsV q := by
  unfold partsI at *; rw [take_snoc h, partsW_snoc, if_pos h2]
theorem partsW_stop : ∀ (l : List Sel) (n : Nat), 1000 < n → partsW n l = n
  | [], n, _ => by simp [partsW]
  | q :: l, n, h => by rw [partsW, if_neg (by omega)]
theorem partsI_stop {k : Int} {n : Str} {l : List Sel} {i : Nat} (h : 1000 < partsI l i) : partsV (.mk k n l) = partsI l i := by
  rw [partsV]
  have e : partsW 1 l = partsW (partsI l i) (l.drop i) := by
    unfold partsI
    have : ∀ (a b : List Sel) (n : Nat), partsW n (a ++ b) = partsW (partsW n a) b := fun a => by
      induction a with
      | nil => intro b n; simp [partsW]
      | cons x a ih =>
        intro b n
        rw [List.cons_append, partsW, partsW]
        split
        · exact ih b _
        · rename_i h; exact (partsW_stop b n (by omega)).symm
    rw [← this, List.take_append_drop]
  rw [e, partsW_stop _ _ h]
theorem partsI_all {k : Int} {n : Str} {l : List Sel} : partsV (.mk k n l) = partsI l l.length := by unfold partsI; rw [List.take_length, partsV]
theorem parts_le : ∀ (d : Nat) (s : Sel), dep s ≤ d → 1 ≤ partsV s ∧ partsV s ≤ 1000 * d + 1
  | 0, s, h => by have := dep_pos s; omega
  | d + 1, .mk k n l, h => by
    rw [dep] at h
    have key : ∀ (l : List Sel) (n : Nat), 1 ≤ n → n ≤ 1000 * (d + 1) + 1 → depL l ≤ d → 1 ≤ partsW n l ∧ partsW n l ≤ 1000 * (d + 1) + 1 := fun l => by
      induction l with
      | nil => intro n h0 h1 h2; simpa [partsW] using ⟨h0, h1⟩
      | cons q l ih =>
        intro n h0 h1 h2
        rw [depL] at h2
        have hq := parts_le d q (by omega)
        rw [partsW]
        split
        · exact ih _ (by omega) (by omega) (by omega)
        · exact ⟨h0, h1⟩
    rw [partsV]
    exact key l 1 (by omega) (by omega) (by omega)
theorem parts_size : ∀ (d : Nat) (s : Sel), dep s ≤ d → (size s ≤ 1000 → partsV s = size s) ∧ (1000 < size s → 1000 < partsV s)
  | 0, s, h => by have := dep_pos s; omega
  | d + 1, .mk k n l, h => by
    rw [dep] at h
    have key : ∀ (l : List Sel) (n : Nat), depL l ≤ d → (n + sizeL l ≤ 1000 → partsW n l = n + sizeL l) ∧ (1000 < n + sizeL l → 1000 < partsW n l) := fun l => by
      induction l with
      | nil => intro n h2; simp [partsW, sizeL]
      | cons q l ih =>
        intro n h2
        rw [depL] at h2
        have hq := parts_size d q (by omega)
        rw [partsW, sizeL]
        split
        · have := ih (n + partsV q) (by omega)
          constructor
          · intro h3; have := hq.1 (by omega); rw [ih (n + partsV q) (by omega) |>.1 (by omega)]; omega
          · intro h3
            rcases Nat.lt_or_ge 1000 (size q) with h4 | h4
            · exact this.2 (by have := hq.2 h4; omega)
            · exact this.2 (by have := hq.1 h4; omega)
        · constructor <;> intro h3 <;> omega
    rw [partsV, size]
    have := key l 1 (by omega)
    constructor
    · intro h3; rw [this.1 (by omega)]; omega
    · intro h3; exact this.2 (by omega)
theorem c_parts (d : Nat) (hd : d ≤ 1000) : ∀ (s : Sel) (hs : SelL s) (h : dep s ≤ d), PCall Tryz.prog 104 [ag s.row] (fun r => r = vint .i64 (partsV s : Nat)) := by
  intro s hs
  induction hs with
  | mk hl hk ih =>
    rename_i k n l
    intro hd2
    have hall : partsV (.mk k n l) = partsI l l.length := partsI_all
    have hsb : ∀ i, i ≤ l.length → 1 ≤ partsI l i ∧ partsI l i ≤ 1000 * d + 1 := fun i hi => by
      have e : dep (.mk k n (l.take i)) ≤ d := by
        rw [dep] at *
        have : depL (l.take i) ≤ depL l := by
          have key : ∀ (l : List Sel) (i : Nat), depL (l.take i) ≤ depL l := fun l => by
            induction l with
            | nil => intro i; simp [depL]
            | cons q l ih => intro i; cases i with
              | zero => simp [depL]
              | succ i => rw [List.take_succ_cons, depL, depL]; have := ih i; omega
          exact key l i
        omega
      have := parts_le d (.mk k n (l.take i)) e
      rw [partsV] at this
      exact this
    have hstop : ∀ i, 1000 < partsI l i → partsV (.mk k n l) = partsI l i := fun i h => partsI_stop h
    rw [row_mk]
    generalize partsV (.mk k n l) = PV0 at *
    refine acall_of tok mixed 25 rfl (fn := Tryz.f104) (c := Tryz.f104.body.getD .skip) (by kernel_rfl) (by kernel_rfl) (by kernel_rfl) rfl 0 rfl ?_
    repeat' (first | refine o1 ?_ | refine o2 ?_ | refine k1 ?_ | refine k2 ?_ | refine k4 ?_ | fail)
    refine loop_in (fun i : Nat => [(3, vint .i64 (partsI l i)), (4, vint .i64 i)]) (fun _ => [some ⟨52, 3, false, .box (pvs [ei k, es n, .sl 3 (l.map Sel.row)])⟩]) (fun i => i ≤ l.length) (fun i => l.length - i) 0 (Nat.zero_le _) ⟨?_, ?_⟩
    · exact back [0] rfl rfl ⟨rfl, trivial⟩ (by repeat' (first | exact trivial | exact rfl | refine And.intro ?_ ?_))
    intro i hi
    have hbi := hsb i hi
    rcases Nat.lt_or_ge i l.length with hlt | hge
    · obtain ⟨⟨kq, nq, lq⟩, hq⟩ := getE hlt
      have hm := List.mem_of_getElem? hq
      have hdq : dep (.mk kq nq lq) ≤ d := by have := depL_mem hm; rw [dep] at hd2; omega
      have hc := ih _ hm hdq
      have hpq := parts_le d _ hdq
      have hsn := partsI_succ hq
      generalize partsV (.mk kq nq lq) = Q at *
      rcases Nat.lt_or_ge 1000 (partsI l i) with hst | hgo
      · rw [hstop i hst] at *
        generalize partsI l i = A at *
        repeat' (first | refine o1 ?_ | refine o2 ?_ | refine k1 ?_ | refine k2 ?_ | refine k3 ?_ | refine k7 ?_ | refine k8 ?_ | refine And.intro ?_ ?_ | (intro h; first | exact Bool.noConfusion h | exact nz _ h | exact nl h | (simp at h; done) | (simp at h; first | (exfalso; omega) | skip) | skip) | (change retOk _ _ _ _; refine ret_pure rfl trivial ?_) | refine eqv_len_map ?_ | fail)
        rfl
      · generalize hA : partsI l i = A at *
        repeat' (first | refine o1 ?_ | refine o2 ?_ | refine k1 ?_ | refine k2 ?_ | refine k3 ?_ | refine k4 ?_ | refine k6 ?_ | refine And.intro ?_ ?_ | (intro h; first | exact Bool.noConfusion h | exact nz _ h | exact nl h | (simp at h; done) | (simp at h; first | (exfalso; omega) | skip) | skip) | refine eqv_len_map ?_ | refine eqv_wrap (by omega) (by omega) ?_ | refine ⟨_, _, (by first | rfl | assumption), at_map (by assumption), ?_⟩ | (change vcFun _ _ _ _ _; refine call_eq rfl (by repeat' (first | trivial | refine And.intro ?_ ?_ | (show 0 + _ ≤ List.length _; simp))) ALeL.refl (hc) rfl ?_) | fail)
        refine ⟨i + 1, by omega, by omega, ?_⟩
        rw [hsn (by omega), Int.natCast_add]
        exact back [0] rfl rfl ⟨rfl, trivial⟩ (by repeat' (first | exact trivial | exact rfl | refine And.intro ?_ ?_))
    obtain rfl : i = l.length := by omega
    rw [hall] at *
    generalize partsI l l.length = A at *
    repeat' (first | refine o1 ?_ | refine o2 ?_ | refine k1 ?_ | refine k2 ?_ | refine k3 ?_ | refine k7 ?_ | refine k8 ?_ | refine And.intro ?_ ?_ | (intro h; first | exact Bool.noConfusion h | exact nz _ h | exact nl h | (simp at h; done) | (simp at h; first | (exfalso; omega) | skip) | skip) | (change retOk _ _ _ _; refine ret_pure rfl trivial ?_) | refine eqv_len_map ?_ | fail)
    rfl
theorem sound_mk {k : Int} {n : Str} {l : List Sel} : soundB (.mk k n l) = (l.all soundB && formB k n l.length) := by rw [soundB, soundL_all]
theorem c_rsnd : ∀ (s : Sel) (hs : SelL s), PCall Tryz.prog 105 [ag s.row] (fun r => r = vbool (soundB s)) := by
  intro s hs
  induction hs with
  | mk hl hk ih =>
    rename_i k n l
    rw [row_mk, sound_mk]
    refine acall_of tok mixed 77 rfl (fn := Tryz.f105) (c := Tryz.f105.body.getD .skip) (by kernel_rfl) (by kernel_rfl) (by kernel_rfl) rfl 0 rfl ?_
    repeat' (first | refine o1 ?_ | refine o2 ?_ | refine k1 ?_ | refine k2 ?_ | refine k4 ?_ | fail)
    refine loop_in (fun i : Nat => [(3, vint .i64 i)]) (fun _ => [some ⟨52, 3, false, .box (pvs [ei k, es n, .sl 3 (l.map Sel.row)])⟩]) (fun i => i ≤ l.length ∧ ∀ j, j < i → ∀ q, l[j]? = some q → soundB q = true) (fun i => l.length - i) 0 ⟨Nat.zero_le _, fun j hj => by omega⟩ ⟨?_, ?_⟩
    · exact back [0] rfl rfl ⟨rfl, trivial⟩ (by repeat' (first | exact trivial | exact rfl | refine And.intro ?_ ?_))
    intro i ⟨hi, hall⟩
    rcases Nat.lt_or_ge i l.length with hlt | hge
    · obtain ⟨⟨kq, nq, lq⟩, hq⟩ := getE hlt
      have hm := List.mem_of_getElem? hq
      have hc := ih _ hm
      generalize hS : soundB (.mk kq nq lq) = S at *
      repeat' (first | refine o1 ?_ | refine o2 ?_ | refine k1 ?_ | refine k2 ?_ | refine k3 ?_ | refine k4 ?_ | refine k6 ?_ | refine k7 ?_ | refine And.intro ?_ ?_ | (intro h; first | exact Bool.noConfusion h | exact nz _ h | exact nl h | (simp at h; done) | (simp at h; first | (exfalso; omega) | skip) | skip) | (change retOk _ _ _ _; refine ret_pure rfl trivial ?_) | refine eqv_len_map ?_ | refine eqv_wrap (by omega) (by omega) ?_ | refine ⟨_, _, (by first | rfl | assumption), at_map (by assumption), ?_⟩ | (change vcFun _ _ _ _ _; refine call_eq rfl (by repeat' (first | trivial | refine And.intro ?_ ?_ | (show 0 + _ ≤ List.length _; simp))) ALeL.refl (hc) rfl ?_) | fail)
      · have : l.all soundB = false := List.all_eq_false.2 ⟨_, hm, by rw [hS]; simp_all⟩
        rw [this]; rfl
      · exact ⟨i + 1, ⟨by omega, all_lt_succ hall fun y hy => by rw [hq] at hy; cases hy; rw [hS]; assumption⟩, by omega, back [0] rfl rfl ⟨rfl, trivial⟩ (by repeat' (first | exact trivial | exact rfl | refine And.intro ?_ ?_))⟩
    have hal : l.all soundB = true := List.all_eq_true.2 fun q hm => by
      obtain ⟨j, hj⟩ := List.getElem?_of_mem hm
      exact hall j (by have := (List.getElem?_eq_some_iff.1 hj).1; omega) q hj
    rw [hal, Bool.true_and]
    repeat' (first | refine o1 ?_ | refine o2 ?_ | refine k1 ?_ | refine k2 ?_ | refine k3 ?_ | refine k4 ?_ | refine k6 ?_ | refine k7 ?_ | refine k8 ?_ | refine And.intro ?_ ?_ | (intro h; first | exact Bool.noConfusion h | exact nz _ h | exact nl h | (simp at h; done) | (simp at h; first | (exfalso; omega) | skip) | skip) | (change retOk _ _ _ _; refine ret_pure rfl trivial ?_) | refine eqv_len_map ?_ | (change vcFun _ _ _ _ _; refine call_eq rfl (by repeat' (first | trivial | refine And.intro ?_ ?_ | (show 0 + _ ≤ List.length _; simp))) ALeL.refl (c_rcode n) rfl ?_) | fail)
    all_goals
      refine congrArg vbool ?_
      unfold formB nameE
      (repeat' split) <;> first | (exfalso; omega) | (simp_all; done)
theorem c_rSound (s : Sel) (hs : SelL s) : PCall Tryz.prog 35 [ag s.row] (fun r => r = vbool (pB (selP s))) := by
  have h1 := c_Depth s hs
  have h3 := c_rsnd s hs
  have h2 := c_parts 8 (by omega) s hs
  have hz := parts_size 8 s
  have hp := parts_le 8 s
  unfold selP
  obtain ⟨k, n, l⟩ := s
  rw [row_mk] at *
  generalize dep (.mk k n l) = D at *
  generalize size (.mk k n l) = Z at *
  generalize soundB (.mk k n l) = S at *
  generalize partsV (.mk k n l) = PV0 at *
  refine acall_of tok mixed 15 rfl (fn := Tryz.f35) (c := Tryz.f35.body.getD .skip) (by kernel_rfl) (by kernel_rfl) (by kernel_rfl) rfl 0 rfl ?_
  repeat' (first | refine o1 ?_ | refine o2 ?_ | refine k1 ?_ | refine k2 ?_ | refine k7 ?_ | refine And.intro ?_ ?_ | (intro h; first | exact Bool.noConfusion h | exact nz _ h | exact nl h | (simp at h; done) | (simp at h; first | (exfalso; omega) | skip) | skip) | (change retOk _ _ _ _; refine ret_pure rfl trivial ?_) | (change vcFun _ _ _ _ _; refine call_eq rfl (by repeat' (first | trivial | refine And.intro ?_ ?_ | (show 0 + _ ≤ List.length _; simp))) ALeL.refl (h1) rfl ?_) | (change vcFun _ _ _ _ _; refine call_eq rfl (by repeat' (first | trivial | refine And.intro ?_ ?_ | (show 0 + _ ≤ List.length _; simp))) ALeL.refl (h2 (by omega)) rfl ?_) | (change vcFun _ _ _ _ _; refine call_eq rfl (by repeat' (first | trivial | refine And.intro ?_ ?_ | (show 0 + _ ≤ List.length _; simp))) ALeL.refl (h3) rfl ?_) | fail)
  · have hz := hz (by omega)
    exact congrArg vbool (pB_eq ⟨fun h => ⟨by omega, by omega, h⟩, fun h => h.2.2⟩)
  · exact congrArg vbool (pB_f fun h => by have hz := hz (by omega); omega).symm
  · exact congrArg vbool (pB_f fun h => by omega).symm
end Go.Proofs.YtkbaecjnhmbeeaaGreat.Cw
/-
  Selections in order (plain): the order of selections is total.
-/
namespace Go.Proofs.YtkbaecjnhmbeeaaGreat.Cw
open Go Go.Cw Go.Proofs
set_option linter.unusedVariables false
set_option maxRecDepth 100000
set_option maxHeartbeats 1600000
def cmpN (a b : Str) : Int := if sLt a b then -1 else if sLt b a then 1 else 0
-- The order of selections.
mutual
def ordS : Sel → Sel → Int
  | .mk k n l, .mk k' n' l' => if cmpI k k' ≠ 0 then cmpI k k' else if cmpN n n' ≠ 0 then cmpN n n' else ordL l l'
def ordL : List Sel → List Sel → Int
  | [], [] => 0
  | [], _ :: _ => -1
  | _ :: _, [] => 1
  | x :: l, y :: l' => if ordS x y ≠ 0 then ordS x y else ordL l l'
end
theorem cmpI_anti (a b : Int) : cmpI b a = - cmpI a b := by unfold cmpI; (repeat' split) <;> omega
theorem cmpI_zero {a b : Int} (h : cmpI a b = 0) : a = b := by unfold cmpI at h; (repeat' split at h) <;> omega
theorem cmpI_self (a : Int) : cmpI a a = 0 := by unfold cmpI; rw [if_neg (by omega), if_neg (by omega)]
theorem cmpI_lt {a b : Int} : cmpI a b < 0 ↔ a < b := by unfold cmpI; (repeat' split) <;> omega
theorem sLt_as {a b : Str} (h : sLt a b = true) : sLt b a = false := by
  cases h2 : sLt b a
  · rfl
  · have := sLt_trans h h2; rw [sLt_irr] at this; cases this
theorem cmpN_anti (a b : Str) : cmpN b a = - cmpN a b := by
  unfold cmpN
  cases h1 : sLt a b <;> cases h2 : sLt b a
  · rfl
  · rfl
  · rfl
  · rw [sLt_as h1] at h2; cases h2
theorem cmpN_zero {a b : Str} (h : cmpN a b = 0) : a = b := by
  unfold cmpN at h
  cases h1 : sLt a b <;> cases h2 : sLt b a <;> rw [h1, h2] at h
  · exact sLt_conn h1 h2
  · exact absurd h (by decide)
  · exact absurd h (by decide)
  · exact absurd h (by decide)
theorem cmpN_self (a : Str) : cmpN a a = 0 := by unfold cmpN; rw [sLt_irr]; rfl
theorem cmpN_lt {a b : Str} : cmpN a b < 0 ↔ sLt a b = true := by
  unfold cmpN
  cases h1 : sLt a b <;> cases h2 : sLt b a <;> simp
theorem ifn {a b : Int} (h : a = 0) : (if a ≠ 0 then a else b) = b := if_neg fun k => k h
theorem ifp {a b : Int} (h : a ≠ 0) : (if a ≠ 0 then a else b) = a := if_pos h
mutual
theorem ord_anti : ∀ a b : Sel, ordS b a = - ordS a b
  | .mk k n l, .mk k' n' l' => by
    rw [ordS, ordS, cmpI_anti k k', cmpN_anti n n', ordL_anti l l']
    (repeat' split) <;> omega
theorem ordL_anti : ∀ a b : List Sel, ordL b a = - ordL a b
  | [], [] => rfl
  | [], _ :: _ => rfl
  | _ :: _, [] => rfl
  | x :: l, y :: l' => by
    rw [ordL, ordL, ord_anti x y, ordL_anti l l']
    (repeat' split) <;> omega
end
mutual
theorem ord_zero : ∀ a b : Sel, ordS a b = 0 → a = b
  | .mk k n l, .mk k' n' l', h => by
    rw [ordS] at h
    by_cases h1 : cmpI k k' = 0
    · rw [ifn h1] at h
      by_cases h2 : cmpN n n' = 0
      · rw [ifn h2] at h
        rw [cmpI_zero h1, cmpN_zero h2, ordL_zero l l' h]
      · rw [ifp h2] at h; exact absurd h h2
    · rw [ifp h1] at h; exact absurd h h1
theorem ordL_zero : ∀ a b : List Sel, ordL a b = 0 → a = b
  | [], [], _ => rfl
  | [], _ :: _, h => absurd h (by rw [ordL]; decide)
  | _ :: _, [], h => absurd h (by rw [ordL]; decide)
  | x :: l, y :: l', h => by
    rw [ordL] at h
    by_cases h1 : ordS x y = 0
    · rw [ifn h1] at h
      rw [ord_zero x y h1, ordL_zero l l' h]
    · rw [ifp h1] at h; exact absurd h h1
end
theorem ord_self (a : Sel) : ordS a a = 0 := by
  have := ord_anti a a
  omega
theorem ord_iff {a b : Sel} : ordS a b = 0 ↔ a = b := ⟨ord_zero a b, fun h => h ▸ ord_self a⟩
mutual
theorem ord_trans : ∀ a b c : Sel, ordS a b < 0 → ordS b c < 0 → ordS a c < 0
  | .mk k n l, .mk k' n' l', .mk k'' n'' l'', h1, h2 => by
    have key : ∀ {k k' : Int} {n n' : Str} {l l' : List Sel}, ordS (.mk k n l) (.mk k' n' l') < 0 ↔ k < k' ∨ (k = k' ∧ (sLt n n' = true ∨ (n = n' ∧ ordL l l' < 0))) := by
      intro k k' n n' l l'
      rw [ordS]
      by_cases h1 : cmpI k k' = 0
      · rw [ifn h1]
        have e := cmpI_zero h1
        by_cases h2 : cmpN n n' = 0
        · rw [ifn h2]
          have e2 := cmpN_zero h2
          subst e; subst e2
          constructor
          · exact fun h => .inr ⟨rfl, .inr ⟨rfl, h⟩⟩
          · rintro (h | ⟨_, h | ⟨_, h⟩⟩)
            · omega
            · rw [sLt_irr] at h; cases h
            · exact h
        · rw [ifp h2]
          constructor
          · exact fun h => .inr ⟨e, .inl (cmpN_lt.1 h)⟩
          · rintro (h | ⟨_, h | ⟨e2, h⟩⟩)
            · omega
            · exact cmpN_lt.2 h
            · subst e2; exact absurd (cmpN_self n) h2
      · rw [ifp h1]
        constructor
        · exact fun h => .inl (cmpI_lt.1 h)
        · rintro (h | ⟨e, _⟩)
          · exact cmpI_lt.2 h
          · subst e; exact absurd (cmpI_self k) h1
    rw [key] at h1 h2 ⊢
    rcases h1 with h1 | ⟨rfl, h1⟩
    · rcases h2 with h2 | ⟨rfl, _⟩
      · exact .inl (by omega)
      · exact .inl h1
    · rcases h2 with h2 | ⟨rfl, h2⟩
      · exact .inl h2
      · refine .inr ⟨rfl, ?_⟩
        rcases h1 with h1 | ⟨rfl, h1⟩
        · rcases h2 with h2 | ⟨rfl, _⟩
          · exact .inl (sLt_trans h1 h2)
          · exact .inl h1
        · rcases h2 with h2 | ⟨rfl, h2⟩
          · exact .inl h2
          · exact .inr ⟨rfl, ordL_trans l l' l'' h1 h2⟩
theorem ordL_trans : ∀ a b c : List Sel, ordL a b < 0 → ordL b c < 0 → ordL a c < 0
  | [], [], _, h1, _ => absurd h1 (by rw [ordL]; decide)
  | [], _ :: _, [], _, h2 => absurd h2 (by rw [ordL]; decide)
  | [], _ :: _, _ :: _, _, _ => by rw [ordL]; decide
  | _ :: _, [], _, h1, _ => absurd h1 (by rw [ordL]; decide)
  | _ :: _, _ :: _, [], _, h2 => absurd h2 (by rw [ordL]; decide)
  | x :: l, y :: l', z :: l'', h1, h2 => by
    rw [ordL] at h1 h2 ⊢
    by_cases e1 : ordS x y = 0
    · rw [ifn e1] at h1
      have e1' := ord_zero x y e1
      subst e1'
      by_cases e2 : ordS x z = 0
      · rw [ifn e2] at h2 ⊢
        exact ordL_trans l l' l'' h1 h2
      · rw [ifp e2] at h2 ⊢; exact h2
    · rw [ifp e1] at h1
      by_cases e2 : ordS y z = 0
      · rw [ifn e2] at h2
        have e2' := ord_zero y z e2
        subst e2'
        rw [ifp e1]; exact h1
      · rw [ifp e2] at h2
        have h3 := ord_trans x y z h1 h2
        rw [ifp (by omega)]; exact h3
end
def sortS : List Sel → Prop := List.Pairwise fun a b => ordS a b < 0
theorem sort_unique : ∀ {a b : List Sel}, sortS a → sortS b → (∀ x, x ∈ a ↔ x ∈ b) → a = b
  | [], [], _, _, _ => rfl
  | [], y :: b, _, _, h => by have := (h y).2 (List.mem_cons_self ..); cases this
  | x :: a, [], _, _, h => by have := (h x).1 (List.mem_cons_self ..); cases this
  | x :: a, y :: b, ha, hb, h => by
    obtain ⟨ha1, ha2⟩ := List.pairwise_cons.1 ha
    obtain ⟨hb1, hb2⟩ := List.pairwise_cons.1 hb
    have hxy : x = y := by
      rcases List.mem_cons.1 ((h x).1 (List.mem_cons_self ..)) with e | hx
      · exact e
      · rcases List.mem_cons.1 ((h y).2 (List.mem_cons_self ..)) with e | hy
        · exact e.symm
        · have := hb1 x hx; have := ha1 y hy; have := ord_anti x y; omega
    subst hxy
    rw [sort_unique ha2 hb2 fun z => ?_]
    constructor
    · intro hz
      rcases List.mem_cons.1 ((h z).1 (List.mem_cons_of_mem _ hz)) with e | hz'
      · subst e; have := ha1 z hz; rw [ord_self] at this; omega
      · exact hz'
    · intro hz
      rcases List.mem_cons.1 ((h z).2 (List.mem_cons_of_mem _ hz)) with e | hz'
      · subst e; have := hb1 z hz; rw [ord_self] at this; omega
      · exact hz'
end Go.Proofs.YtkbaecjnhmbeeaaGreat.Cw
/-
  The simple form of selections (plain).
-/
namespace Go.Proofs.YtkbaecjnhmbeeaaGreat.Cw
open Go Go.Cw Go.Proofs
set_option linter.unusedVariables false
set_option maxRecDepth 100000
set_option maxHeartbeats 1600000
def insU (x : Sel) : List Sel → List Sel
  | [] => [x]
  | y :: l => if ordS x y < 0 then x :: y :: l else if ordS x y = 0 then y :: l else y :: insU x l
def setV (l : List Sel) : List Sel := l.foldl (fun a x => insU x a) []
theorem ins_mem {x z : Sel} : ∀ {l : List Sel}, z ∈ insU x l ↔ z = x ∨ z ∈ l
  | [] => by simp [insU]
  | y :: l => by
    unfold insU
    split
    · simp
    · split
      · rename_i h
        have := ord_zero x y h
        subst this
        simp
      · rw [List.mem_cons, ins_mem, List.mem_cons]
        constructor
        · rintro (h | h | h)
          · exact .inr (.inl h)
          · exact .inl h
          · exact .inr (.inr h)
        · rintro (h | h | h)
          · exact .inr (.inl h)
          · exact .inl h
          · exact .inr (.inr h)
theorem ins_sort {x : Sel} : ∀ {l : List Sel}, sortS l → sortS (insU x l)
  | [], _ => List.pairwise_singleton _ _
  | y :: l, h => by
    obtain ⟨h1, h2⟩ := List.pairwise_cons.1 h
    unfold insU
    split
    · rename_i hlt
      refine List.pairwise_cons.2 ⟨fun z hz => ?_, h⟩
      rcases List.mem_cons.1 hz with rfl | hz
      · exact hlt
      · exact ord_trans _ _ _ hlt (h1 z hz)
    · split
      · exact h
      · rename_i n1 n2
        refine List.pairwise_cons.2 ⟨fun z hz => ?_, ins_sort h2⟩
        rcases ins_mem.1 hz with rfl | hz
        · have := ord_anti z y; omega
        · exact h1 z hz
theorem setV_snoc {l : List Sel} {x : Sel} : setV (l ++ [x]) = insU x (setV l) := by unfold setV; rw [List.foldl_append]; rfl
theorem set_gen : ∀ {l a : List Sel}, sortS a → sortS (l.foldl (fun a x => insU x a) a) ∧ ∀ z, z ∈ l.foldl (fun a x => insU x a) a ↔ z ∈ l ∨ z ∈ a
  | [], a, h => ⟨h, fun z => by simp⟩
  | x :: l, a, h => by
    obtain ⟨h1, h2⟩ := set_gen (l := l) (ins_sort (x := x) h)
    refine ⟨h1, fun z => ?_⟩
    rw [List.foldl_cons, h2, ins_mem, List.mem_cons]
    constructor
    · rintro (h | h | h)
      · exact .inl (.inr h)
      · exact .inl (.inl h)
      · exact .inr h
    · rintro ((h | h) | h)
      · exact .inr (.inl h)
      · exact .inl h
      · exact .inr (.inr h)
theorem setV_sort (l : List Sel) : sortS (setV l) := (set_gen (l := l) List.Pairwise.nil).1
theorem setV_mem {l : List Sel} {z : Sel} : z ∈ setV l ↔ z ∈ l := by
  have := (set_gen (l := l) (a := []) List.Pairwise.nil).2 z
  unfold setV
  rw [this]; simp
theorem setV_self {l : List Sel} (h : sortS l) : setV l = l := sort_unique (setV_sort l) h fun x => setV_mem
def noN : Str := ⟨#[]⟩
def allQ : Sel := .mk 1 noN []
def noneQ : Sel := .mk 10 noN [allQ]
def nothV (k : Int) : Sel := if k = 9 then noneQ else allQ
def evryV (k : Int) : Sel := if k = 9 then allQ else noneQ
def flatV (k : Int) (l : List Sel) : List Sel := l.flatMap fun s => if s.kind = k then s.kids else [s]
def packV (k : Int) : List Sel → Sel
  | [] => nothV k
  | [x] => x
  | x :: y :: l => .mk k noN (x :: y :: l)
def dropV (z : Sel) (l : List Sel) : List Sel := l.filter fun x => !(ordS x z == 0)
def joinV (k : Int) (l : List Sel) : Sel := if (flatV k l).any (fun x => ordS x (evryV k) == 0) then evryV k else packV k (dropV (nothV k) (setV (flatV k l)))
-- What a simple selection does not mean.
mutual
def notV : Sel → Sel
  | .mk k n l => if k = 10 then l.headD allQ else if k = 8 then joinV 9 (notL l) else if k = 9 then joinV 8 (notL l) else .mk 10 noN [.mk k n l]
def notL : List Sel → List Sel
  | [] => []
  | x :: l => notV x :: notL l
end
-- The simple form.
mutual
def simpV : Sel → Sel
  | .mk k n l => if k = 10 then notV ((simpL l).headD allQ) else if k = 8 ∨ k = 9 then joinV k (simpL l) else .mk k n l
def simpL : List Sel → List Sel
  | [] => []
  | x :: l => simpV x :: simpL l
end
theorem notL_map : ∀ l : List Sel, notL l = l.map notV
  | [] => rfl
  | x :: l => by rw [notL, notL_map l]; rfl
theorem simpL_map : ∀ l : List Sel, simpL l = l.map simpV
  | [] => rfl
  | x :: l => by rw [simpL, simpL_map l]; rfl
inductive IsS : Sel → Prop where
  | leaf {k : Int} {n : Str} (h : 1 ≤ k ∧ k ≤ 7) : IsS (.mk k n [])
  | not_ {k : Int} {n : Str} (h : 1 ≤ k ∧ k ≤ 7) : IsS (.mk 10 noN [.mk k n []])
  | join {k : Int} {l : List Sel} (hk : k = 8 ∨ k = 9) (hs : ∀ q ∈ l, IsS q) (hkd : ∀ q ∈ l, q.kind ≠ k) (ho : sortS l) (h2 : 2 ≤ l.length) (he : evryV k ∉ l) (hn : nothV k ∉ l) : IsS (.mk k noN l)
theorem isS_all : IsS allQ := .leaf (by decide)
theorem isS_none : IsS noneQ := .not_ (by decide)
theorem isS_noth {k : Int} : IsS (nothV k) := by unfold nothV; split; exact isS_none; exact isS_all
theorem isS_evry {k : Int} : IsS (evryV k) := by unfold evryV; split; exact isS_all; exact isS_none
theorem drop_mem {z x : Sel} {l : List Sel} : x ∈ dropV z l ↔ x ∈ l ∧ x ≠ z := by
  unfold dropV
  rw [List.mem_filter]
  refine and_congr Iff.rfl ?_
  rw [Bool.not_eq_true', beq_eq_false_iff_ne]
  exact not_congr ord_iff
theorem drop_sort {z : Sel} {l : List Sel} (h : sortS l) : sortS (dropV z l) := List.Pairwise.filter _ h
theorem flat_ok {k : Int} (hk : k = 8 ∨ k = 9) {l : List Sel} (h : ∀ q ∈ l, IsS q) : ∀ q ∈ flatV k l, IsS q ∧ q.kind ≠ k := by
  intro q hq
  obtain ⟨s, hs, hqs⟩ := List.mem_flatMap.1 hq
  have h1 := h s hs
  by_cases e : s.kind = k
  · rw [if_pos e] at hqs
    cases h1 with
    | leaf h2 =>
      have e : _ = k := e
      dsimp only [Sel.kind] at e
      omega
    | not_ h2 =>
      have e : (10 : Int) = k := e
      omega
    | join g1 g2 g3 g4 g5 g6 g7 =>
      have e : _ = k := e
      subst e
      exact ⟨g2 q hqs, g3 q hqs⟩
  · rw [if_neg e] at hqs
    obtain rfl := List.mem_singleton.1 hqs
    exact ⟨h1, e⟩
theorem any_evry {k : Int} {l : List Sel} : (l.any fun x => ordS x (evryV k) == 0) = true ↔ evryV k ∈ l := by
  rw [List.any_eq_true]
  constructor
  · rintro ⟨x, hx, h⟩
    have := ord_zero _ _ (eq_of_beq h)
    exact this ▸ hx
  · exact fun h => ⟨_, h, by rw [ord_self]; rfl⟩
theorem pack_ok {k : Int} (hk : k = 8 ∨ k = 9) : ∀ {l : List Sel}, (∀ q ∈ l, IsS q ∧ q.kind ≠ k) → sortS l → evryV k ∉ l → nothV k ∉ l → IsS (packV k l)
  | [], _, _, _, _ => isS_noth
  | [x], h, _, _, _ => (h x (List.mem_cons_self ..)).1
  | x :: y :: l, h, h1, h2, h3 => .join hk (fun q hq => (h q hq).1) (fun q hq => (h q hq).2) h1 (by simp) h2 h3
theorem join_ok {k : Int} (hk : k = 8 ∨ k = 9) {l : List Sel} (h : ∀ q ∈ l, IsS q) : IsS (joinV k l) := by
  have hf := flat_ok hk h
  unfold joinV
  split
  · exact isS_evry
  · rename_i hn
    rw [any_evry] at hn
    refine pack_ok hk (fun q hq => hf q (setV_mem.1 (drop_mem.1 hq).1)) (drop_sort (setV_sort _)) (fun hq => hn (setV_mem.1 (drop_mem.1 hq).1)) fun hq => (drop_mem.1 hq).2 rfl
theorem flat_self {k : Int} : ∀ {l : List Sel}, (∀ q ∈ l, q.kind ≠ k) → flatV k l = l
  | [], _ => rfl
  | x :: l, h => by
    have := flat_self (l := l) fun q hq => h q (List.mem_cons_of_mem _ hq)
    unfold flatV at this ⊢
    rw [List.flatMap_cons, this, if_neg (h x (List.mem_cons_self ..))]; rfl
theorem join_fix {k : Int} {n : Str} {l : List Sel} (hk : k = 8 ∨ k = 9) (h : IsS (.mk k n l)) : joinV k l = .mk k n l := by
  cases h with
  | leaf h => omega
  | not_ h => omega
  | join g1 g2 g3 g4 g5 g6 g7 =>
    unfold joinV
    rw [flat_self g3, if_neg fun h => g6 (any_evry.1 h), setV_self g4]
    have : dropV (nothV k) l = l := List.filter_eq_self.2 fun x hx => by
      rw [Bool.not_eq_true', beq_eq_false_iff_ne]
      exact fun e => g7 (ord_zero _ _ e ▸ hx)
    rw [this]
    match l, g5 with
    | x :: y :: l, _ => rfl
theorem not_ok : ∀ {s : Sel}, IsS s → IsS (notV s)
  | _, .leaf h => by
    rw [notV, if_neg (by omega), if_neg (by omega), if_neg (by omega)]; exact .not_ h
  | _, .not_ h => by
    rw [notV, if_pos rfl]; exact .leaf h
  | _, .join (k := k) (l := l) hk hs hkd ho h2 he hn => by
    have h1 : ∀ q ∈ notL l, IsS q := fun q hq => by
      rw [notL_map] at hq
      obtain ⟨x, hx, rfl⟩ := List.mem_map.1 hq
      exact not_ok (hs x hx)
    rw [notV, if_neg (by omega)]
    split
    · exact join_ok (.inr rfl) h1
    · rw [if_pos (by omega)]; exact join_ok (.inl rfl) h1
inductive IsR : Sel → Prop where
  | leaf {k : Int} {n : Str} (h : 1 ≤ k ∧ k ≤ 7) : IsR (.mk k n [])
  | not_ {s : Sel} (h : IsR s) : IsR (.mk 10 noN [s])
  | join {k : Int} {l : List Sel} (hk : k = 8 ∨ k = 9) (hs : ∀ q ∈ l, IsR q) (h2 : 2 ≤ l.length) : IsR (.mk k noN l)
theorem simp_ok : ∀ {s : Sel}, IsR s → IsS (simpV s)
  | _, .leaf h => by
    rw [simpV, if_neg (by omega), if_neg (by omega)]; exact .leaf h
  | _, .not_ h => by
    rw [simpV, if_pos rfl, simpL, simpL]
    exact not_ok (simp_ok h)
  | _, .join (k := k) (l := l) hk hs h2 => by
    rw [simpV, if_neg (by omega), if_pos hk, simpL_map]
    refine join_ok hk fun q hq => ?_
    obtain ⟨x, hx, rfl⟩ := List.mem_map.1 hq
    exact simp_ok (hs x hx)
end Go.Proofs.YtkbaecjnhmbeeaaGreat.Cw
/-
  Lists of selections in order: putting one in, and leaving out what comes twice (plain).
-/
namespace Go.Proofs.YtkbaecjnhmbeeaaGreat.Cw
open Go Go.Cw Go.Proofs
set_option linter.unusedVariables false
set_option maxRecDepth 100000
set_option maxHeartbeats 1600000
theorem insU_have {x : Sel} {l : List Sel} (hs : sortS l) (h : x ∈ l) : insU x l = l :=
  sort_unique (ins_sort hs) hs fun z => by
    rw [ins_mem]
    exact ⟨fun k => k.elim (fun e => e ▸ h) id, .inr⟩
theorem sort_at {l : List Sel} (hs : sortS l) {i j : Nat} {a b : Sel} (hij : i < j) (ha : l[i]? = some a) (hb : l[j]? = some b) : ordS a b < 0 := by
  obtain ⟨h1, rfl⟩ := List.getElem?_eq_some_iff.1 ha
  obtain ⟨h2, rfl⟩ := List.getElem?_eq_some_iff.1 hb
  exact List.pairwise_iff_getElem.1 hs i j h1 h2 hij
theorem insU_at {x : Sel} {l : List Sel} {k : Nat} (hs : sortS l) (hk : k ≤ l.length) (h1 : ∀ (j : Nat) y, k ≤ j → l[j]? = some y → ordS x y < 0) (h2 : ∀ (j : Nat) y, k = j + 1 → l[j]? = some y → 0 < ordS x y) : l.take k ++ x :: l.drop k = insU x l := by
  refine sort_unique ?_ (ins_sort hs) fun z => ?_
  · have hdr : ∀ y ∈ l.drop k, ordS x y < 0 := fun y hy => by
      obtain ⟨j, hj⟩ := List.getElem?_of_mem hy
      rw [List.getElem?_drop] at hj
      exact h1 (k + j) y (by omega) hj
    have htk : ∀ y ∈ l.take k, ordS y x < 0 := fun y hy => by
      obtain ⟨j, hj⟩ := List.getElem?_of_mem hy
      rw [List.getElem?_take] at hj
      split at hj
      · rename_i hjk
        obtain ⟨y', hy'⟩ : ∃ y', l[k - 1]? = some y' := ⟨_, List.getElem?_eq_getElem (show k - 1 < l.length by omega)⟩
        have h3 := h2 (k - 1) y' (by omega) hy'
        have h4 := ord_anti x y'
        rcases Nat.lt_or_ge j (k - 1) with h5 | h5
        · exact ord_trans _ _ _ (sort_at hs h5 hj hy') (by omega)
        · obtain rfl : j = k - 1 := by omega
          rw [hj] at hy'; cases hy'
          omega
      · cases hj
    refine List.pairwise_append.2 ⟨List.Pairwise.sublist (List.take_sublist ..) hs, List.pairwise_cons.2 ⟨hdr, List.Pairwise.sublist (List.drop_sublist ..) hs⟩, fun a ha b hb => ?_⟩
    rcases List.mem_cons.1 hb with rfl | hb
    · exact htk a ha
    · exact ord_trans _ _ _ (htk a ha) (hdr b hb)
  · rw [ins_mem, List.mem_append, List.mem_cons]
    conv => rhs; rw [← List.take_append_drop k l]
    rw [List.mem_append]
    constructor
    · rintro (h | h | h)
      · exact .inr (.inl h)
      · exact .inl h
      · exact .inr (.inr h)
    · rintro (h | h | h)
      · exact .inr (.inl h)
      · exact .inl h
      · exact .inr (.inr h)
theorem set_drop {z : Sel} {l : List Sel} : setV (dropV z l) = dropV z (setV l) :=
  sort_unique (setV_sort _) (drop_sort (setV_sort _)) fun x => by
    rw [setV_mem, drop_mem, drop_mem, setV_mem]
theorem drop_snoc {z x : Sel} {l : List Sel} : dropV z (l ++ [x]) = if ordS x z = 0 then dropV z l else dropV z l ++ [x] := by
  unfold dropV
  rw [List.filter_append]
  by_cases h : ordS x z = 0
  · rw [if_pos h, List.filter_cons_of_neg (by simp [h])]; simp
  · rw [if_neg h, List.filter_cons_of_pos (by simpa using h)]; rfl
theorem flat_snoc {k : Int} {l : List Sel} {x : Sel} : flatV k (l ++ [x]) = flatV k l ++ if x.kind = k then x.kids else [x] := by
  unfold flatV; rw [List.flatMap_append]; simp
def firstD (S : List Sel) (i : Nat) (x : Sel) : Option Sel := match i with
  | 0 => some x
  | i + 1 => match S[i]? with
    | some y => if ordS x y = 0 then none else some x
    | none => some x
def compD (S : List Sel) (n : Nat) : List Sel := (List.range n).filterMap fun i => (S[i]?).bind (firstD S i)
def sortW : List Sel → Prop := List.Pairwise fun a b => ordS a b ≤ 0
theorem ord_le_trans {a b c : Sel} (h1 : ordS a b ≤ 0) (h2 : ordS b c ≤ 0) : ordS a c ≤ 0 := by
  rcases Int.lt_or_eq_of_le h1 with h1 | h1
  · rcases Int.lt_or_eq_of_le h2 with h2 | h2
    · have := ord_trans _ _ _ h1 h2; omega
    · rw [← ord_zero _ _ h2]; omega
  · rw [ord_zero _ _ h1]; exact h2
theorem comp_ok {S : List Sel} (h : sortW S) : ∀ n, n ≤ S.length → sortS (compD S n) ∧ (∀ x, x ∈ compD S n ↔ ∃ i, i < n ∧ S[i]? = some x)
  | 0, _ => ⟨List.Pairwise.nil, fun x => by
      unfold compD
      simp⟩
  | n + 1, hn => by
    obtain ⟨h1, h2⟩ := comp_ok h n (by omega)
    obtain ⟨x, hx⟩ : ∃ x, S[n]? = some x := ⟨_, List.getElem?_eq_getElem (show n < S.length by omega)⟩
    have hle : ∀ (i : Nat) y, i < n → S[i]? = some y → ordS y x ≤ 0 := fun i y hi hy => by
      obtain ⟨g1, rfl⟩ := List.getElem?_eq_some_iff.1 hy
      obtain ⟨g2, rfl⟩ := List.getElem?_eq_some_iff.1 hx
      exact List.pairwise_iff_getElem.1 h i n g1 g2 hi
    have hmem : ∀ z, (∃ i, i < n + 1 ∧ S[i]? = some z) ↔ (∃ i, i < n ∧ S[i]? = some z) ∨ z = x := fun z => by
      constructor
      · rintro ⟨i, hi, hz⟩
        rcases Nat.lt_or_ge i n with h3 | h3
        · exact .inl ⟨i, h3, hz⟩
        · obtain rfl : i = n := by omega
          rw [hx] at hz; cases hz; exact .inr rfl
      · rintro (⟨i, hi, hz⟩ | rfl)
        · exact ⟨i, by omega, hz⟩
        · exact ⟨n, by omega, hx⟩
    have e : compD S (n + 1) = compD S n ++ (firstD S n x).toList := by
      unfold compD
      rw [List.range_succ, List.filterMap_append]
      simp only [List.filterMap_cons, List.filterMap_nil, hx, Option.bind_some]
      cases firstD S n x <;> rfl
    have hd : firstD S n x = none ∧ (∃ i, i < n ∧ S[i]? = some x) ∨ firstD S n x = some x ∧ ∀ (i : Nat) y, i < n → S[i]? = some y → ordS y x < 0 := by
      cases n with
      | zero => exact .inr ⟨rfl, fun i y hi => absurd hi (Nat.not_lt_zero _)⟩
      | succ n =>
        obtain ⟨y, hy⟩ : ∃ y, S[n]? = some y := ⟨_, List.getElem?_eq_getElem (show n < S.length by omega)⟩
        by_cases he : ordS x y = 0
        · refine .inl ⟨?_, n, by omega, by rw [hy, ord_zero _ _ he]⟩
          show (match S[n]? with | some y => if ordS x y = 0 then none else some x | none => some x) = none
          rw [hy]; exact if_pos he
        · refine .inr ⟨?_, fun i z hi hz => ?_⟩
          · show (match S[n]? with | some y => if ordS x y = 0 then none else some x | none => some x) = some x
            rw [hy]; exact if_neg he
          · have h3 := hle n y (by omega) hy
            have h4 := ord_anti x y
            have h5 : ordS y x < 0 := by omega
            rcases Nat.lt_or_ge i n with h6 | h6
            · have h7 : ordS z y ≤ 0 := by
                obtain ⟨g1, rfl⟩ := List.getElem?_eq_some_iff.1 hz
                obtain ⟨g2, rfl⟩ := List.getElem?_eq_some_iff.1 hy
                exact List.pairwise_iff_getElem.1 h i n g1 g2 h6
              rcases Int.lt_or_eq_of_le h7 with h8 | h8
              · exact ord_trans _ _ _ h8 h5
              · rw [ord_zero _ _ h8]; exact h5
            · obtain rfl : i = n := by omega
              rw [hy] at hz; cases hz; exact h5
    rcases hd with ⟨d1, d2⟩ | ⟨d1, d2⟩
    · rw [e, d1, Option.toList_none, List.append_nil]
      refine ⟨h1, fun z => ?_⟩
      rw [h2, hmem]
      exact ⟨.inl, fun k => k.elim id fun e => e ▸ d2⟩
    · rw [e, d1, Option.toList_some]
      refine ⟨List.pairwise_append.2 ⟨h1, List.pairwise_singleton _ _, fun a ha b hb => ?_⟩, fun z => ?_⟩
      · obtain rfl := List.mem_singleton.1 hb
        obtain ⟨i, hi, hz⟩ := (h2 a).1 ha
        exact d2 i a hi hz
      · rw [List.mem_append, h2, hmem, List.mem_singleton]
theorem comp_set {S l : List Sel} (h : sortW S) (hm : ∀ x, x ∈ S ↔ x ∈ l) : compD S S.length = setV l := by
  obtain ⟨h1, h2⟩ := comp_ok h S.length (Nat.le_refl _)
  refine sort_unique h1 (setV_sort l) fun x => ?_
  rw [h2, setV_mem, ← hm]
  constructor
  · rintro ⟨i, _, hi⟩; exact List.mem_of_getElem? hi
  · intro hx
    obtain ⟨i, hi⟩ := List.getElem?_of_mem hx
    exact ⟨i, (List.getElem?_eq_some_iff.1 hi).1, hi⟩
end Go.Proofs.YtkbaecjnhmbeeaaGreat.Cw
/-
  Selections: the program's check, which counts the parts that it visits.
-/
namespace Go.Proofs.YtkbaecjnhmbeeaaGreat.Cw
open Go.Cw Go.Proofs
set_option linter.unusedVariables false
set_option maxRecDepth 100000
set_option maxHeartbeats 4000000
def namedP (k : Int) : Prop := 2 ≤ k ∧ k ≤ 7
def headP (k : Int) (n : Str) : Prop := 1 ≤ k ∧ k ≤ 10 ∧ (namedP k ↔ nameE n = false) ∧ (namedP k → codeP n)
def kidsP (k : Int) (m : Nat) : Prop := if k = 8 ∨ k = 9 then 2 ≤ m else if k = 10 then m = 1 else m = 0
mutual
noncomputable def valS : Sel → Int → Nat → Bool × Nat
  | .mk k n l, d, p => if pB (1 ≤ d ∧ p + 1 ≤ 64 ∧ headP k n ∧ kidsP k l.length) then valL l (d - 1) (p + 1) else (false, p + 1)
noncomputable def valL : List Sel → Int → Nat → Bool × Nat
  | [], _, p => (true, p)
  | q :: l, d, p => if (valS q d p).1 then valL l d (valS q d p).2 else (false, (valS q d p).2)
end
theorem code_name {n : Str} (h : codeP n) : nameE n = false := by
  unfold nameE
  rw [sEq_f]
  rintro rfl
  exact absurd h.1 (by decide)
theorem form_iff {k : Int} {n : Str} {m : Nat} : formB k n m = true ↔ headP k n ∧ kidsP k m := by
  have hc := @code_name n
  unfold formB kidsP headP namedP
  generalize nameE n = E at *
  by_cases hC : codeP n
  · rw [pB_t hC]
    obtain rfl := hc hC
    (repeat' split) <;> simp [hC] <;> omega
  · rw [pB_f hC]
    cases E
    · (repeat' split) <;> simp [hC] <;> omega
    · (repeat' split) <;> simp [hC] <;> omega
theorem head_iff {k : Int} {n : Str} : headP k n ↔ 1 ≤ k ∧ k ≤ 10 ∧ (pB (namedP k) = !nameE n) ∧ (namedP k → codeP n) := by
  unfold headP
  generalize nameE n = E
  cases E <;> by_cases h : namedP k <;> simp [h]
theorem valS_if {k : Int} {n : Str} {l : List Sel} {d : Int} {p : Nat} : valS (.mk k n l) d p = if pB (1 ≤ d ∧ p + 1 ≤ 64 ∧ headP k n ∧ kidsP k l.length) then valL l (d - 1) (p + 1) else (false, p + 1) := by rw [valS]
theorem valL_app : ∀ (a b : List Sel) (d : Int) (p : Nat), (valL a d p).1 = true → valL (a ++ b) d p = valL b d (valL a d p).2
  | [], b, d, p, h => by rw [valL]; rfl
  | q :: a, b, d, p, h => by
    rw [valL] at h
    split at h
    · rename_i h1
      rw [List.cons_append, valL, if_pos h1, valL_app a b d _ h, valL, if_pos h1]
    · cases h
theorem valL_nil {d : Int} {p : Nat} : valL [] d p = (true, p) := by rw [valL]
theorem valL_one {q : Sel} {d : Int} {p : Nat} : valL [q] d p = valS q d p := by
  rw [valL, valL]
  split
  · rename_i h; exact Prod.ext h.symm rfl
  · rename_i h; exact Prod.ext (by simpa using h) rfl
theorem val_both : ∀ (D : Nat), (∀ (s : Sel), dep s ≤ D → ∀ (d : Int) (p : Nat), ((valS s d p).1 = true ↔ ((dep s : Nat) : Int) ≤ d ∧ p + size s ≤ 64 ∧ soundB s = true) ∧ ((valS s d p).1 = true → (valS s d p).2 = p + size s))
  | 0, s, h => by have := dep_pos s; omega
  | D + 1, .mk k n l, h => by
    intro d p
    rw [dep] at h
    have key : ∀ (l : List Sel), depL l ≤ D → ∀ (d : Int) (p : Nat), p ≤ 64 → 0 ≤ d → ((valL l d p).1 = true ↔ ((depL l : Nat) : Int) ≤ d ∧ p + sizeL l ≤ 64 ∧ soundL l = true) ∧ ((valL l d p).1 = true → (valL l d p).2 = p + sizeL l) := fun l => by
      induction l with
      | nil => intro h2 d p hp hd; rw [valL_nil]; simp [depL, sizeL, soundL, hp, hd]
      | cons q l ih =>
        intro h2 d p hp hd
        rw [depL] at h2
        have hq := val_both D q (by omega) d p
        rw [valL, depL, sizeL, soundL]
        split
        · rename_i h1
          have h3 := hq.1.1 h1
          have h4 := hq.2 h1
          rw [h4]
          have h5 := ih (by omega) d (p + size q) h3.2.1 hd
          constructor
          · rw [h5.1, h3.2.2, Bool.true_and]
            constructor
            · rintro ⟨a, b, c⟩; exact ⟨by omega, by omega, c⟩
            · rintro ⟨a, b, c⟩; exact ⟨by omega, by omega, c⟩
          · intro h6; rw [h5.2 h6]; omega
        · rename_i h1
          constructor
          · constructor
            · intro h; cases h
            · rintro ⟨a, b, c⟩
              rw [Bool.and_eq_true] at c
              exact absurd (hq.1.2 ⟨by omega, by omega, c.1⟩) h1
          · intro h; cases h
    rw [valS_if, dep, size, soundB, Bool.and_eq_true, form_iff]
    by_cases hh : 1 ≤ d ∧ p + 1 ≤ 64 ∧ headP k n ∧ kidsP k l.length
    · rw [pB_t hh, if_pos rfl]
      have h5 := key l (by omega) (d - 1) (p + 1) hh.2.1 (by omega)
      constructor
      · rw [h5.1]
        constructor
        · rintro ⟨a, b, c⟩; exact ⟨by omega, by omega, c, hh.2.2⟩
        · rintro ⟨a, b, c, e⟩; exact ⟨by omega, by omega, c⟩
      · intro h6; rw [h5.2 h6]; omega
    · rw [pB_f hh, if_neg (by simp)]
      constructor
      · constructor
        · intro h; cases h
        · rintro ⟨a, b, c, e⟩; exact absurd ⟨by omega, by omega, e⟩ hh
      · intro h; cases h
theorem val_sel (s : Sel) : (valS s 8 0).1 = pB (selP s) := pB_eq (by
  rw [(val_both _ s (Nat.le_refl _) 8 0).1]
  unfold selP
  constructor
  · rintro ⟨a, b, c⟩; exact ⟨by omega, by omega, c⟩
  · rintro ⟨a, b, c⟩; exact ⟨by omega, by omega, c⟩)
theorem val_le {s : Sel} {d : Int} {p : Nat} (h : (valS s d p).1 = true) : (valS s d p).2 ≤ 64 := by
  have h1 := val_both _ s (Nat.le_refl _) d p
  rw [h1.2 h]; exact (h1.1.1 h).2.1
abbrev chkO (p : Nat) : Option AObj := some ⟨166, 1, false, .box [vint .i64 p]⟩
abbrev chkC : Option AObj := some ⟨164, 1, false, .box [.ptr 0 1 0 0]⟩
abbrev chkD (d : Int) : Option AObj := some ⟨3, 1, false, .box [vint .i64 d]⟩
abbrev chkH (p : Nat) (d : Int) : Heap := [chkO p, chkC, chkD d]
def CloseOk (q : Sel) (d : Int) : Prop := ∀ p : Nat, p ≤ 64 → ACall Tryz.prog 207 [ag q.row, .ptr 1 1 0 0, .ptr 2 1 0 0] (chkH p d) (fun r H' => r = vbool (!(valS q (d - 1) p).1) ∧ H' = chkH (valS q (d - 1) p).2 d)
theorem c_named (k : Int) : PCall Tryz.prog 206 [vint .i64 k] (fun r => r = vbool (pB (namedP k))) := by
  refine acall_of tok mixed 9 rfl (fn := Tryz.f206) (c := Tryz.f206.body.getD .skip) (by kernel_rfl) (by kernel_rfl) (by kernel_rfl) rfl 0 rfl ?_
  repeat' (first | refine o1 ?_ | refine o2 ?_ | refine k1 ?_ | refine k2 ?_ | refine k7 ?_ | refine And.intro ?_ ?_ | (intro h; first | exact Bool.noConfusion h | exact nz _ h | exact nl h | (simp at h; done) | (simp at h; first | (exfalso; omega) | skip) | skip) | (change retOk _ _ _ _; refine ret_pure rfl trivial ?_) | fail)
  all_goals first
    | exact congrArg vbool (pB_f fun h => by have := h.1; omega).symm
    | (refine congrArg vbool (pB_eq ?_); unfold namedP; simp [*])
noncomputable def valI (l : List Sel) (d : Int) (p i : Nat) : Bool × Nat := valL (l.take i) d p
theorem valI_zero {l : List Sel} {d : Int} {p : Nat} : valI l d p 0 = (true, p) := valL_nil
theorem valI_next {l : List Sel} {d : Int} {p i : Nat} {q : Sel} (h : (valI l d p i).1 = true) (hq : l[i]? = some q) : valI l d p (i + 1) = valS q d (valI l d p i).2 := by
  unfold valI at *; rw [take_snoc hq, valL_app _ _ _ _ h, valL_one]
theorem valI_stop {l : List Sel} {d : Int} {p i : Nat} {q : Sel} (h : (valI l d p i).1 = true) (hq : l[i]? = some q) (hn : (valS q d (valI l d p i).2).1 = false) : valL l d p = valS q d (valI l d p i).2 := by
  obtain ⟨hi, hq2⟩ := List.getElem?_eq_some_iff.1 hq
  have e : l = l.take i ++ q :: l.drop (i + 1) := by rw [← hq2, ← List.drop_eq_getElem_cons hi, List.take_append_drop]
  conv => lhs; rw [e]
  unfold valI at *
  rw [valL_app _ _ _ _ h, valL, if_neg (by rw [hn]; simp)]
  exact Prod.ext hn.symm rfl
theorem valI_all {l : List Sel} {d : Int} {p : Nat} : valI l d p l.length = valL l d p := by unfold valI; rw [List.take_length]
theorem c_kidsI (l : List Sel) (d : Int) (p : Nat) (hp : p ≤ 64) (hl : l.length ≤ 9223372036854775807) (hk : ∀ q ∈ l, CloseOk q d) :
    ACall Tryz.prog 217 [.pv (.sl 3 (l.map Sel.row)), .fn 207 [.ptr 1 1 0 0, .ptr 2 1 0 0]] (chkH p d) (fun r H' => (∃ n : Int, r = vint .i64 n ∧ decide (n ≥ 0) = !(valL l (d - 1) p).1) ∧ H' = chkH (valL l (d - 1) p).2 d) := by
  refine acall_of tok mixed 19 rfl (fn := Tryz.f217) (c := Tryz.f217.body.getD .skip) (by kernel_rfl) (by kernel_rfl) (by kernel_rfl) rfl 3 rfl ?_
  repeat' (first | refine o1 ?_ | refine o2 ?_ | refine k1 ?_ | refine k2 ?_ | refine k4 ?_ | refine eqv_len_map ?_ | fail)
  refine loop_in (fun i : Nat => [(8, vint .i64 i)]) (fun i => chkH (valI l (d - 1) p i).2 d) (fun i => i ≤ l.length ∧ (valI l (d - 1) p i).1 = true ∧ (valI l (d - 1) p i).2 ≤ 64) (fun i => l.length - i) 0 ⟨Nat.zero_le _, by rw [valI_zero], by rw [valI_zero]; exact hp⟩ ⟨?_, ?_⟩
  · rw [valI_zero]
    exact back [0, 1, 2] rfl rfl ⟨rfl, rfl, rfl, trivial⟩ (by repeat' (first | exact trivial | exact rfl | refine And.intro ?_ ?_))
  intro i ⟨hi, h1, h2⟩
  rcases Nat.lt_or_ge i l.length with hlt | hge
  · obtain ⟨⟨kq, nq, lq⟩, hq⟩ := getE hlt
    have hc := hk _ (List.mem_of_getElem? hq) _ h2
    have hn := valI_next h1 hq
    have hs := valI_stop h1 hq
    have hle := val_le (s := .mk kq nq lq) (d := d - 1) (p := (valI l (d - 1) p i).2)
    generalize (valI l (d - 1) p i).2 = A at *
    generalize valS (.mk kq nq lq) (d - 1) A = R at *
    obtain ⟨b, A2⟩ := R
    dsimp only at hs hle hc hn
    repeat' (first | ((change vcFun _ _ _ _ _; refine call_obj [0, 1, 2] (chkH A d) [ag (Sel.row (.mk kq nq lq)), .ptr 1 1 0 0, .ptr 2 1 0 0] rfl ⟨rfl, rfl, rfl, trivial⟩ rfl hc ?_; rintro _ _ ⟨rfl, rfl⟩; refine ⟨Nat.le_refl _, ?_⟩)) | refine o1 ?_ | refine o2 ?_ | refine k1 ?_ | refine k2 ?_ | refine k3 ?_ | refine k4 ?_ | refine k6 ?_ | refine k7 ?_ | refine And.intro ?_ ?_ | (intro h; first | exact Bool.noConfusion h | exact nz _ h | exact nl h | (simp at h; done) | (simp at h; first | (exfalso; omega) | skip) | skip) | refine eqv_wrap (by omega) (by omega) ?_ | refine ⟨_, _, (by first | rfl | assumption), at_map (by assumption), ?_⟩ | fail)
    · change retOk _ _ _ _
      exact ret_obj [0, 1, 2] (chkH A2 d) rfl rfl ⟨rfl, rfl, rfl, trivial⟩ (r' := vint .i64 (i : Nat)) rfl ⟨⟨i, rfl, by rw [hs (by assumption)]; simp [*]⟩, by rw [hs (by assumption)]⟩
    · refine ⟨i + 1, ⟨by omega, by rw [hn]; assumption, by rw [hn]; exact hle (by assumption)⟩, by omega, ?_⟩
      rw [hn]
      exact back [0, 1, 2] rfl rfl ⟨rfl, rfl, rfl, trivial⟩ (by repeat' (first | exact trivial | exact rfl | refine And.intro ?_ ?_))
  obtain rfl : i = l.length := by omega
  rw [valI_all] at *
  repeat' (first | refine o1 ?_ | refine o2 ?_ | refine k1 ?_ | refine k2 ?_ | refine k3 ?_ | refine k7 ?_ | refine k8 ?_ | refine And.intro ?_ ?_ | (intro h; first | exact Bool.noConfusion h | exact nz _ h | exact nl h | (simp at h; done) | (simp at h; first | (exfalso; omega) | skip) | skip) | fail)
  change retOk _ _ _ _
  exact ret_obj [0, 1, 2] (chkH (valL l (d - 1) p).2 d) rfl rfl ⟨rfl, rfl, rfl, trivial⟩ (r' := vint .i64 (-1)) rfl ⟨⟨-1, rfl, by rw [h1]; rfl⟩, rfl⟩
theorem c_kidsC (l : List Sel) (d : Int) (p : Nat) (hp : p ≤ 64) (hl : l.length ≤ 9223372036854775807) (hk : ∀ q ∈ l, CloseOk q d) :
    ACall Tryz.prog 112 [.pv (.sl 3 (l.map Sel.row)), .fn 207 [.ptr 1 1 0 0, .ptr 2 1 0 0]] (chkH p d) (fun r H' => r = vbool (!(valL l (d - 1) p).1) ∧ H' = chkH (valL l (d - 1) p).2 d) := by
  have hc := c_kidsI l d p hp hl hk
  generalize valL l (d - 1) p = R at *
  obtain ⟨b, A⟩ := R
  refine acall_of tok mixed 9 rfl (fn := Tryz.f112) (c := Tryz.f112.body.getD .skip) (by kernel_rfl) (by kernel_rfl) (by kernel_rfl) rfl 3 rfl ?_
  repeat' (first | ((change vcFun _ _ _ _ _; refine call_obj [0, 1, 2] (chkH p d) [.pv (.sl 3 (l.map Sel.row)), .fn 207 [.ptr 1 1 0 0, .ptr 2 1 0 0]] rfl ⟨rfl, rfl, rfl, trivial⟩ rfl hc ?_; rintro _ _ ⟨⟨nn, rfl, hnn⟩, rfl⟩; refine ⟨Nat.le_refl _, ?_⟩)) | refine o1 ?_ | refine o2 ?_ | refine k1 ?_ | refine k2 ?_ | refine k7 ?_ | fail)
  change retOk _ _ _ _
  exact ret_obj [0, 1, 2] (chkH A d) rfl rfl ⟨rfl, rfl, rfl, trivial⟩ (r' := vbool (decide (nn ≥ 0))) rfl ⟨congrArg vbool hnn, rfl⟩
def ValidOk (s : Sel) : Prop := ∀ (d : Int) (p : Nat), -9 ≤ d → d ≤ 9 → p ≤ 64 → ACall Tryz.prog 107 [.ptr 0 1 0 0, ag s.row, vint .i64 d] [chkO p] (fun r H' => r = vbool (valS s d p).1 ∧ H' = [chkO (valS s d p).2])
theorem c_close (q : Sel) (h : ValidOk q) (d : Int) (h1 : 1 ≤ d) (h2 : d ≤ 9) : CloseOk q d := by
  intro p hp
  have hc := h (d - 1) p (by omega) (by omega) hp
  obtain ⟨k, n, l⟩ := q
  rw [row_mk] at *
  generalize valS (.mk k n l) (d - 1) p = R at *
  obtain ⟨b, A⟩ := R
  refine acall_of tok mixed 11 rfl (fn := Tryz.f207) (c := Tryz.f207.body.getD .skip) (by kernel_rfl) (by kernel_rfl) (by kernel_rfl) rfl 3 rfl ?_
  repeat' (first | ((change vcFun _ _ _ _ _; refine call_obj [0] [chkO p] [.ptr 0 1 0 0, ag [ei k, es n, .sl 3 (l.map Sel.row)], vint .i64 (d - 1)] rfl ⟨rfl, trivial⟩ rfl hc ?_; rintro _ _ ⟨rfl, rfl⟩; refine ⟨Nat.le_refl _, ?_⟩)) | refine o1 ?_ | refine o2 ?_ | refine k1 ?_ | refine k2 ?_ | refine k7 ?_ | refine eqv_wrap (by omega) (by omega) ?_ | fail)
  change retOk _ _ _ _
  exact ret_obj [0, 1, 2] (chkH A d) rfl rfl ⟨rfl, rfl, rfl, trivial⟩ (r' := vbool (!b)) rfl ⟨rfl, rfl⟩
theorem c_valSel : ∀ (s : Sel) (hs : SelL s), ValidOk s := by
  intro s hs
  induction hs with
  | mk hl hk ih =>
    rename_i k n l
    intro d p hd1 hd2 hp
    rw [row_mk, valS_if]
    have hkids := fun h1 : 1 ≤ d => fun hp1 : p + 1 ≤ 64 => c_kidsC l d (p + 1) hp1 hl fun q hq => c_close q (ih q hq) d h1 hd2
    have hh := @head_iff k n
    refine acall_of tok mixed 75 rfl (fn := Tryz.f107) (c := Tryz.f107.body.getD .skip) (by kernel_rfl) (by kernel_rfl) (by kernel_rfl) rfl 1 rfl ?_
    repeat' (first | (refine join_in (a := .region 2 _ _) (fun b : Bool => [(53, vbool b)]) (fun _ => [chkO (p + 1), chkC, some ⟨52, 3, false, .box (pvs [ei k, es n, .sl 3 (l.map Sel.row)])⟩, chkD d]) (fun b => b = pB (¬ (1 ≤ d ∧ p + 1 ≤ 64 ∧ headP k n))) ⟨?_, ?_⟩) | refine o1 ?_ | refine o2 ?_ | refine k1 ?_ | refine k2 ?_ | refine And.intro ?_ ?_ | refine o3 ?_ | refine o4 ?_ | (intro h; first | exact Bool.noConfusion h | exact nz _ h | exact nl h | (simp at h; done) | (simp at h; first | (exfalso; omega) | skip) | skip) | exact (by kernel_rfl : drawOk _ _ = true) | refine eqv_wrap (by omega) (by omega) ?_ | (change vcFunD _ _ _ _ _; refine callD_eq rfl (by repeat' (first | trivial | refine And.intro ?_ ?_ | (show 0 + _ ≤ List.length _; simp))) ALeL.refl (c_named k) rfl ?_) | (change vcFunD _ _ _ _ _; refine callD_eq rfl (by repeat' (first | trivial | refine And.intro ?_ ?_ | (show 0 + _ ≤ List.length _; simp))) ALeL.refl (c_code n) rfl ?_) | fail)
    rotate_right
    · refine ⟨fun b hb => ?_⟩
      by_cases hg : 1 ≤ d ∧ p + 1 ≤ 64 ∧ headP k n
      · rw [pB_f (by simpa using hg)] at hb
        subst hb
        have hkids := hkids hg.1 hg.2.1
        have hif : (if k = 8 ∨ k = 9 then 2 ≤ l.length else if k = 10 then l.length = 1 else l.length = 0) → (if pB (1 ≤ d ∧ p + 1 ≤ 64 ∧ headP k n ∧ kidsP k l.length) then valL l (d - 1) (p + 1) else (false, p + 1)) = valL l (d - 1) (p + 1) := fun h => by rw [pB_t ⟨hg.1, hg.2.1, hg.2.2, h⟩, if_pos rfl]
        have hif2 : ¬ (if k = 8 ∨ k = 9 then 2 ≤ l.length else if k = 10 then l.length = 1 else l.length = 0) → (if pB (1 ≤ d ∧ p + 1 ≤ 64 ∧ headP k n ∧ kidsP k l.length) then valL l (d - 1) (p + 1) else (false, p + 1)) = (false, p + 1) := fun h => by rw [pB_f (fun h2 => h h2.2.2.2), if_neg (by simp)]
        have hnil : l.length = 0 → valL l (d - 1) (p + 1) = (true, p + 1) := fun h => by rw [List.eq_nil_of_length_eq_zero h, valL_nil]
        generalize (if pB (1 ≤ d ∧ p + 1 ≤ 64 ∧ headP k n ∧ kidsP k l.length) then valL l (d - 1) (p + 1) else (false, p + 1)) = Z at *
        generalize valL l (d - 1) (p + 1) = R at *
        repeat' (first | ((change vcFun _ _ _ _ _; refine call_obj [0, 1, 3] (chkH (p + 1) d) [.pv (.sl 3 (l.map Sel.row)), .fn 207 [.ptr 1 1 0 0, .ptr 2 1 0 0]] rfl ⟨rfl, rfl, rfl, trivial⟩ rfl hkids ?_; rintro _ _ ⟨rfl, rfl⟩; refine ⟨Nat.le_refl _, ?_⟩)) | refine o1 ?_ | refine o2 ?_ | refine k1 ?_ | refine k2 ?_ | refine k3 ?_ | refine k4 ?_ | refine k6 ?_ | refine k7 ?_ | refine And.intro ?_ ?_ | (intro h; first | exact Bool.noConfusion h | exact nz _ h | exact nl h | (simp at h; done) | (simp at h; first | (exfalso; omega) | skip) | skip) | refine eqv_len_map ?_ | fail)
        all_goals change retOk _ _ _ _
        all_goals first
          | (have hz := hif2 (fun h => by (repeat' split at h) <;> omega); rw [hz]; exact ret_obj [0] [chkO (p + 1)] rfl rfl ⟨rfl, trivial⟩ (r' := vbool false) rfl ⟨rfl, rfl⟩)
          | (have hz := hif (by (repeat' split) <;> omega); rw [hz]; refine ret_obj [0] [chkO R.2] rfl rfl ⟨rfl, trivial⟩ (r' := vbool (!(!R.1))) rfl ⟨congrArg vbool (Bool.not_not _), rfl⟩)
          | skip
        by_cases hl0 : l.length = 0
        · have hz := hif (by (repeat' split) <;> omega)
          rw [hz, hnil hl0, hl0]
          exact ret_obj [0] [chkO (p + 1)] rfl rfl ⟨rfl, trivial⟩ (r' := vbool true) rfl ⟨rfl, rfl⟩
        · have hz := hif2 (fun h => by (repeat' split at h) <;> omega)
          rw [hz, show ((l.length : Int) == 0) = false from beq_false_of_ne (by omega)]
          exact ret_obj [0] [chkO (p + 1)] rfl rfl ⟨rfl, trivial⟩ (r' := vbool false) rfl ⟨rfl, rfl⟩
      · rw [pB_t hg] at hb
        subst hb
        rw [pB_f (fun h2 => hg ⟨h2.1, h2.2.1, h2.2.2.1⟩), if_neg (by simp)]
        repeat' (first | refine o1 ?_ | refine o2 ?_ | refine k1 ?_ | refine k2 ?_ | refine k3 ?_ | refine k7 ?_ | refine And.intro ?_ ?_ | (intro h; first | exact Bool.noConfusion h | exact nz _ h | exact nl h | (simp at h; done) | (simp at h; first | (exfalso; omega) | skip) | skip) | fail)
        change retOk _ _ _ _
        exact ret_obj [0] [chkO (p + 1)] rfl rfl ⟨rfl, trivial⟩ (r' := vbool false) rfl ⟨rfl, rfl⟩
    all_goals
      refine ⟨_, ?_, back [0, 1, 2, 3] rfl rfl ⟨rfl, rfl, rfl, rfl, trivial⟩ (by repeat' (first | exact trivial | exact rfl | refine And.intro ?_ ?_))⟩
      refine pB_eq ?_
      rw [hh]
      unfold nameE
      first | (simp_all; done) | (simp_all; omega) | (simp; omega)
theorem c_selection (s : Sel) (hs : SelL s) : PCall Tryz.prog 38 [ag s.row] (fun r => r = vbool (pB (selP s))) := by
  have h := c_valSel s hs 8 0 (by omega) (by omega) (by omega)
  rw [val_sel] at h
  generalize (valS s 8 0).2 = A at *
  generalize pB (selP s) = B at *
  obtain ⟨k, n, l⟩ := s
  rw [row_mk] at *
  refine acall_of tok mixed 9 rfl (fn := Tryz.f38) (c := Tryz.f38.body.getD .skip) (by kernel_rfl) (by kernel_rfl) (by kernel_rfl) rfl 0 rfl ?_
  repeat' (first | ((change vcFun _ _ _ _ _; refine call_obj [1] [chkO 0] [.ptr 0 1 0 0, ag [ei k, es n, .sl 3 (l.map Sel.row)], vint .i64 8] rfl ⟨rfl, trivial⟩ rfl h ?_; rintro _ _ ⟨rfl, rfl⟩; refine ⟨Nat.le_refl _, ?_⟩)) | refine o1 ?_ | refine o2 ?_ | refine k1 ?_ | refine k2 ?_ | refine k7 ?_ | (change retOk _ _ _ _; refine ret_pure rfl trivial ?_) | fail)
  rfl
end Go.Proofs.YtkbaecjnhmbeeaaGreat.Cw
/-
  Rules: their data, and what a valid one is.
-/
namespace Go.Proofs.YtkbaecjnhmbeeaaGreat.Cw
open Go.Cw Go.Proofs
set_option linter.unusedVariables false
set_option maxRecDepth 100000
set_option maxHeartbeats 8000000
structure Rule where
  (name : Str)
  (weight kind : Int)
  (first second : Sel)
  (n : Int)
  (times : List Time)
  (rooms : List Str)
  (line : Int)
def Sel.cells (s : Sel) : List PV := [ei s.kind, es s.name, .sl 3 (s.kids.map Sel.row)]
def Rule.row (u : Rule) : List PV := [es u.name, ei u.weight, ei u.kind, ei u.first.kind, es u.first.name, .sl 3 (u.first.kids.map Sel.row), ei u.second.kind, es u.second.name, .sl 3 (u.second.kids.map Sel.row), ei u.n, encTimes u.times, encStrs u.rooms, ei u.line]
structure RuleL (u : Rule) : Prop where
  first : SelL u.first
  second : SelL u.second
  times : u.times.length ≤ 9223372036854775807
  rooms : u.rooms.length ≤ 9223372036854775807
open Classical in
noncomputable def roomNE (l : List Str) (i : Nat) : Int := match l[i]? with
  | some x => if ¬ codeP x then 10 else if x ∈ l.take i then 11 else 0
  | none => 0
def noneP (s : Sel) : Prop := s.kind = 0 ∧ s.name = ⟨#[]⟩ ∧ s.kids = []
def selsP (u : Rule) : Prop := selP u.first ∧ (u.kind = 6 → selP u.second) ∧ (u.kind ≠ 6 → noneP u.second)
def numP (k : Int) : Prop := k = 7 ∨ k = 8 ∨ k = 9
open Classical in
noncomputable def listE (u : Rule) (g : Grid) (w : Int) : Int :=
  if u.kind ≠ 10 ∧ (u.times.length : Int) > 0 then 1 else if u.kind = 10 ∧ (u.times.length : Int) = 0 then 16 else if (u.times.length : Int) > 24 then 2 else if ¬ ∀ t ∈ u.times, fitE g w t = 0 then 14 else
  if u.kind ≠ 11 ∧ (u.rooms.length : Int) > 0 then 1 else if u.kind = 11 ∧ (u.rooms.length : Int) = 0 then 16 else if (u.rooms.length : Int) > 16 then 2 else firstE (roomNE u.rooms) u.rooms.length
open Classical in
noncomputable def ruleE (u : Rule) (g : Grid) (w : Int) : Int :=
  if ¬ weekP g w then 1 else if ¬ codeP u.name then 10 else if u.weight < 0 ∨ u.weight > 1000 then 3 else if u.kind < 1 ∨ u.kind > 12 then 1 else if ¬ selsP u then 4 else
  if u.n < 0 ∨ u.n > 24 ∨ (¬ numP u.kind ∧ u.n ≠ 0) then 3 else if listE u g w ≠ 0 then listE u g w else if u.line < 0 then 3 else 0
end Go.Proofs.YtkbaecjnhmbeeaaGreat.Cw
