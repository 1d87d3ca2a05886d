/-
  Part 6 of the proof (P6, YA, P7, Y2, P8, Y3, P9): what later parts use. No conditions.
-/
import Derived.Test.YtbcacaodfpgflaaDoorYV5

/-
  Contracts: sessions put in order; the normal form, by the program.
-/
namespace Go.Proofs.YtbcacaodfpgflaaDoor.Cw
open Go Go.Cw Go.Proofs
set_option linter.unusedVariables false
set_option maxRecDepth 100000
set_option maxHeartbeats 8000000

/-- A row read back. -/
def unrow : List PV → Sess
  | [.val (.string c), .val (.int _ w), .val (.int _ d), .val (.int _ s), .val (.int _ l), .val (.string r)] => ⟨c, ⟨w, d, s, l⟩, r⟩
  | _ => zeroS
theorem unrow_row (s : Sess) : unrow s.row = s := rfl
def ordC (x y : List PV) : Int := ordI (unrow x) (unrow y)
theorem ordC_row (a b : Sess) : ordC a.row b.row < 0 ↔ befP a b := by unfold ordC; rw [unrow_row, unrow_row]; exact ord_bef
theorem ordC_weak (l : List Sess) : WeakOrd ordC (l.map Sess.row) := by
  have hm : ∀ x ∈ l.map Sess.row, ∃ s : Sess, x = s.row := fun x hx => by
    obtain ⟨s, -, e⟩ := List.mem_map.1 hx; exact ⟨s, e.symm⟩
  refine ⟨fun x hx => ?_, fun x hx y hy z hz h1 h2 => ?_, fun x hx y hy z hz h1 h2 => ?_⟩
  · obtain ⟨s, rfl⟩ := hm x hx
    rw [ordC_row]; exact bef_irr s
  · obtain ⟨a, rfl⟩ := hm x hx; obtain ⟨b, rfl⟩ := hm y hy; obtain ⟨c, rfl⟩ := hm z hz
    rw [ordC_row] at *; exact bef_trans h1 h2
  · obtain ⟨a, rfl⟩ := hm x hx; obtain ⟨b, rfl⟩ := hm y hy; obtain ⟨c, rfl⟩ := hm z hz
    rw [ordC_row] at *; exact bef_ntrans h1 h2
theorem map_unrow {l : List Sess} : (l.map Sess.row).map unrow = l := by
  rw [List.map_map]
  have : (unrow ∘ Sess.row) = id := funext unrow_row
  rw [this, List.map_id]
/-- What a sort of sessions leaves. -/
theorem sorted_rows {l : List Sess} {ys : List (List PV)} (hp : ys.Perm (l.map Sess.row)) (ha : RowsAsc ordC ys) (hc : l.Pairwise fun a b => befP a b ∨ befP b a) : ys = (ordV l).map Sess.row := by
  have e : ys = (ys.map unrow).map Sess.row := by
    rw [List.map_map]
    have : ys.map (Sess.row ∘ unrow) = ys.map id := List.map_congr_left fun x hx => by
      obtain ⟨s, -, rfl⟩ := List.mem_map.1 (hp.subset hx)
      show (unrow s.row).row = s.row
      rw [unrow_row]
    rw [this, List.map_id]
  have hp2 : (ys.map unrow).Perm l := by
    have := hp.map unrow
    rwa [map_unrow] at this
  generalize ys.map unrow = m at *
  subst e
  have hc2 : m.Pairwise fun a b => befP a b ∨ befP b a := hp2.symm.pairwise hc fun h => h.symm
  have hs : m.Pairwise befP := by
    rw [List.pairwise_iff_getElem] at hc2 ⊢
    intro i j hi hj hij
    refine (hc2 i j hi hj hij).resolve_right fun k => ?_
    exact ha i j _ _ hij (by rw [List.getElem?_map, List.getElem?_eq_getElem hi]; rfl) (by rw [List.getElem?_map, List.getElem?_eq_getElem hj]; rfl) ((ordC_row _ _).2 k)
  rw [sorted_unique (hp2.trans ord_perm.symm) hs (ord_sorted hc)]
theorem c_sorted (l : List Sess) (hne : l ≠ []) (hl : l.length ≤ 1000000000) (hs : ∀ s ∈ l, setP s.time.weeks 20) (hc : l.Pairwise fun a b => befP a b ∨ befP b a) :
    ACall Tryd.prog 33 [.ms 0 6 0 l.length] [some ⟨45, 6, false, .p (l.map Sess.row)⟩] fun r H' => r = .ms 0 6 0 (ordV l).length ∧ H' = [some ⟨45, 6, false, .p ((ordV l).map Sess.row)⟩] := by
  have h := c_sortF (l.map Sess.row) ordC (fun x hx y hy => by
    obtain ⟨a, ha, rfl⟩ := List.mem_map.1 hx
    obtain ⟨b, hb, rfl⟩ := List.mem_map.1 hy
    have := c_sorted1 a b (hs a ha) (hs b hb)
    unfold ordC
    rw [unrow_row, unrow_row]
    exact this) (ordC_weak l) (fun e => hne (List.map_eq_nil_iff.1 e)) (by rw [List.length_map]; omega)
  rw [List.length_map] at h
  have h : ACall Tryd.prog 50 [.ms 0 6 0 l.length, .pv (.fn 51 [])] [some ⟨45, 6, false, .p (l.map Sess.row)⟩] fun r H' => r = .tup [] ∧ H' = [some ⟨45, 6, false, .p ((ordV l).map Sess.row)⟩] :=
    h.mono fun r H' ⟨h1, ys, h2, h3, h4⟩ => ⟨h1, by rw [h4, sorted_rows h2 h3 hc]⟩
  rw [ord_len]
  refine acall_of tok mixed 6 rfl (fn := Tryd.f33) (c := Tryd.f33.body.getD .skip) (by kernel_rfl) (by kernel_rfl) (by kernel_rfl) rfl 1 rfl ?_
  repeat' (first | ((change vcFun _ _ _ _ _; refine call_one (i := 0) rfl (fun _ _ => rfl) [.ms 0 6 0 l.length, .pv (.fn 51 [])] rfl h ?_; rintro r H' ⟨rfl, rfl⟩; refine ⟨_, rfl, fun _ _ => rfl, fun _ _ => rfl, ?_⟩)) | refine o1 ?_ | refine o2 ?_ | refine k1 ?_ | refine k2 ?_ | refine k3 ?_ | refine k4 ?_ | refine k6 ?_ | refine k7 ?_ | refine k8 ?_ | refine And.intro ?_ ?_ | exact trivial | refine o3 ?_ | refine o4 ?_ | refine o5 ?_ | refine o6 ?_ | refine k5 ?_ | (intro h; first | exact Bool.noConfusion h | exact nz _ h | exact nl h | (simp at h; done) | (simp at h; first | (exfalso; omega) | skip) | skip) | (change retOk _ _ _ _; refine ret_pure rfl trivial ?_) | exact (rfl : allOne _ = true) | (refine (?_ : (0 : Int) ≤ _); omega) | (refine (?_ : _ ≠ _); omega) | (refine (?_ : srcLen _ = rowsLen _); rfl) | exact Nat.le_of_ble_eq_true rfl | exact (by kernel_rfl : drawOk _ _ = true) | refine eqv_len_map ?_ | refine eqv_size ?_ | refine eqv_put (eqv_ck ?_) | refine eqv_zero ?_ | refine eqv_wrap (by omega) (by omega) ?_ | refine eqv_u64 (by omega) (by omega) ?_ | refine eqv_u8 (by omega) (by omega) ?_ | refine eqv_to _ (set_map rfl rfl) ?_ | refine ⟨_, _, (by first | rfl | assumption), at_map (by assumption), ?_⟩ | refine ⟨_, _, (by first | rfl | assumption), (by assumption), ?_⟩ | refine ⟨_, at_map (by assumption), (by decide), ?_⟩ | refine ⟨_, at_map (by assumption), ?_⟩ | (refine (?_ : _ ≤ 140737488355328); simp [rowsLen] <;> omega) | (refine (?_ : _ ≤ 9223372036854775807); simp [rowsLen] <;> omega) | (refine (?_ : _ = rowsLen _); simp [rowsLen] <;> omega) | refine eqv_to _ (app_row rfl) (eqv_to _ app_len ?_) | refine eqv_to _ (app_first rfl) (eqv_to 1 rfl ?_) | refine idx_sl (at_map (by assumption)) (by omega) ?_ | refine idx_ms _ (by first | rfl | assumption) (by first | assumption | omega) ?_ | fail)
  exact ret_obj [0] [some ⟨45, 6, false, .p ((ordV l).map Sess.row)⟩] rfl rfl ⟨rfl, trivial⟩ (r' := .ms 0 6 0 l.length) rfl ⟨rfl, rfl⟩
theorem c_sortedN : PCall Tryd.prog 33 [.pv (.val (.slice none 0 0))] (fun r => r = .pv (.val (.slice none 0 0))) := by
  refine acall_of tok mixed 6 rfl (fn := Tryd.f33) (c := Tryd.f33.body.getD .skip) (by kernel_rfl) (by kernel_rfl) (by kernel_rfl) rfl 0 rfl ?_
  repeat' (first | refine o1 ?_ | refine o2 ?_ | refine k1 ?_ | refine k2 ?_ | refine k3 ?_ | refine k4 ?_ | refine k6 ?_ | refine k7 ?_ | refine k8 ?_ | refine And.intro ?_ ?_ | exact trivial | refine o3 ?_ | refine o4 ?_ | refine o5 ?_ | refine o6 ?_ | refine k5 ?_ | (intro h; first | exact Bool.noConfusion h | exact nz _ h | exact nl h | (simp at h; done) | (simp at h; first | (exfalso; omega) | skip) | skip) | (change retOk _ _ _ _; refine ret_pure rfl trivial ?_) | exact (rfl : allOne _ = true) | (refine (?_ : (0 : Int) ≤ _); omega) | (refine (?_ : _ ≠ _); omega) | (refine (?_ : srcLen _ = rowsLen _); rfl) | exact Nat.le_of_ble_eq_true rfl | exact (by kernel_rfl : drawOk _ _ = true) | refine eqv_len_map ?_ | refine eqv_size ?_ | refine eqv_put (eqv_ck ?_) | refine eqv_zero ?_ | refine eqv_wrap (by omega) (by omega) ?_ | refine eqv_u64 (by omega) (by omega) ?_ | refine eqv_u8 (by omega) (by omega) ?_ | refine eqv_to _ (set_map rfl rfl) ?_ | refine ⟨_, _, (by first | rfl | assumption), at_map (by assumption), ?_⟩ | refine ⟨_, _, (by first | rfl | assumption), (by assumption), ?_⟩ | refine ⟨_, at_map (by assumption), (by decide), ?_⟩ | refine ⟨_, at_map (by assumption), ?_⟩ | (refine (?_ : _ ≤ 140737488355328); simp [rowsLen] <;> omega) | (refine (?_ : _ ≤ 9223372036854775807); simp [rowsLen] <;> omega) | (refine (?_ : _ = rowsLen _); simp [rowsLen] <;> omega) | refine eqv_to _ (app_row rfl) (eqv_to _ app_len ?_) | refine eqv_to _ (app_first rfl) (eqv_to 1 rfl ?_) | refine idx_sl (at_map (by assumption)) (by omega) ?_ | refine idx_ms _ (by first | rfl | assumption) (by first | assumption | omega) ?_ | (change vcFun _ _ _ _ _; refine call_eq rfl (by repeat' (first | trivial | refine And.intro ?_ ?_ | (show 0 + _ ≤ List.length _; simp))) ALeL.refl (c_sortF0) rfl ?_) | fail)
  rfl

/-- A session is joined to a list: its place, if there is a place. -/
theorem join_at34 {s : Sess} : ∀ {L : List Sess}, (idxB (fun t => pB (alikeP s t)) L = -1 ∧ joinOne L s = L ++ [s]) ∨ ∃ (k : Nat) (t : Sess), idxB (fun t => pB (alikeP s t)) L = k ∧ L[k]? = some t ∧ joinOne L s = L.set k (orW t s)
  | [] => .inl ⟨rfl, rfl⟩
  | t :: L => by
    by_cases h : alikeP t s
    · refine .inr ⟨0, t, ?_, rfl, ?_⟩
      · exact idxB_at (fun j hj => by omega) rfl (pB_t (alike_comm.1 h))
      · unfold joinOne; rw [if_pos (pB_t h)]; rfl
    · have hf : pB (alikeP s t) = false := pB_f fun k => h (alike_comm.1 k)
      rcases join_at34 (s := s) (L := L) with ⟨h1, h2⟩ | ⟨k, u, h1, h2, h3⟩
      · refine .inl ⟨?_, by unfold joinOne; rw [if_neg (by rw [pB_f h]; simp), h2]; rfl⟩
        refine idxB_none fun j hj y hy => ?_
        cases j with
        | zero => simp at hy; subst hy; exact hf
        | succ j =>
          have hy : L[j]? = some y := by simpa using hy
          cases hq : pB (alikeP s y)
          · rfl
          · exfalso
            have hfi : L.findIdx? (fun t => pB (alikeP s t)) ≠ none := fun e => by
              have := List.findIdx?_eq_none_iff.1 e y (List.mem_of_getElem? hy)
              rw [hq] at this; cases this
            unfold idxB at h1
            cases e : L.findIdx? (fun t => pB (alikeP s t)) with
            | none => exact hfi e
            | some i => rw [e] at h1; simp only at h1; omega
      · refine .inr ⟨k + 1, u, ?_, by simpa using h2, by unfold joinOne; rw [if_neg (by rw [pB_f h]; simp), h3]; rfl⟩
        unfold idxB at h1 ⊢
        rw [List.findIdx?_cons, hf]
        cases e : L.findIdx? (fun t => pB (alikeP s t)) with
        | none => rw [e] at h1; simp only at h1; omega
        | some i => rw [e] at h1; simp only at h1; simp; omega
theorem joined_succ {l : List Sess} {i : Nat} {s : Sess} (h : l[i]? = some s) : joinedV (l.take (i + 1)) = joinOne (joinedV (l.take i)) s := by
  unfold joinedV; rw [take_snoc h, List.foldl_append]; rfl
theorem join_len {L : List Sess} {s : Sess} : (joinOne L s).length ≤ L.length + 1 := by
  rcases join_at34 (s := s) (L := L) with ⟨-, h⟩ | ⟨k, t, -, -, h⟩
  · rw [h, List.length_append]; simp
  · rw [h, List.length_set]; omega
theorem joined_len {l : List Sess} : ∀ {i : Nat}, (joinedV (l.take i)).length ≤ i
  | 0 => by simp [joinedV]
  | i + 1 => by
    have ih := joined_len (l := l) (i := i)
    rcases Nat.lt_or_ge i l.length with hlt | hge
    · obtain ⟨s, hs⟩ := getE hlt
      have := join_len (L := joinedV (l.take i)) (s := s)
      rw [joined_succ hs]; omega
    · rw [List.take_of_length_le (by omega)] at *; omega
def normA (l : List Sess) (w : Int) (V : List Sess) (E : Int) : AV := .tup [.pv (encSess V), vint .i64 E]
section
variable {l : List Sess} {w : Int}
theorem nf3 (h : w < 1 ∨ 20 < w) : normE l w = 3 ∧ normV l w = [] := by
  have e : normE l w = 3 := if_pos h
  exact ⟨e, by unfold normV; rw [e]; rfl⟩
theorem nf_s (hw : 1 ≤ w ∧ w ≤ 20) {i : Nat} (h0 : ∀ j, j < i → sessAt l w j = 0) (hi : i < l.length) (h : sessAt l w i ≠ 0) : normE l w = sessAt l w i ∧ normV l w = [] := by
  have e : singE l w = sessAt l w i := firstE_at h0 h hi
  have e2 : normE l w = sessAt l w i := by unfold normE; rw [if_neg (by omega), if_pos (by rw [e]; exact h), e]
  exact ⟨e2, by unfold normV; rw [e2, if_neg h]⟩
theorem nf_d (hw : 1 ≤ w ∧ w ≤ 20) (hs : singE l w = 0) (h : ¬ apartQ meetP34 (joinedV l)) : normE l w = 11 ∧ normV l w = [] := by
  have e : normE l w = 11 := by unfold normE; rw [if_neg (by omega), if_neg (by simp [hs]), if_neg (by rw [pB_f h]; simp)]
  exact ⟨e, by unfold normV; rw [e]; rfl⟩
theorem nf_2 (hw : 1 ≤ w ∧ w ≤ 20) (hs : singE l w = 0) (h : apartQ meetP34 (joinedV l)) (hn : 96 < (joinedV l).length) : normE l w = 2 ∧ normV l w = [] := by
  have e : normE l w = 2 := by unfold normE; rw [if_neg (by omega), if_neg (by simp [hs]), if_pos (pB_t h), if_pos hn]
  exact ⟨e, by unfold normV; rw [e]; rfl⟩
theorem nf_0 (hw : 1 ≤ w ∧ w ≤ 20) (hs : singE l w = 0) (h : apartQ meetP34 (joinedV l)) (hn : (joinedV l).length ≤ 96) : normE l w = 0 ∧ normV l w = ordV (joinedV l) := by
  have e : normE l w = 0 := by unfold normE; rw [if_neg (by omega), if_neg (by simp [hs]), if_pos (pB_t h), if_neg (by omega)]
  exact ⟨e, by unfold normV; rw [if_pos e]⟩
end
theorem leq_nil {V : List Sess} {E E' : Int} (hv : V = []) (he : E' = E) : Leq (.tup [.pv (.val (.slice none 0 0)), .pv (.val (.int .i64 E))]) (.tup [.pv (encSess V), vint .i64 E']) := by
  subst hv; subst he
  exact ⟨ALe.tup ⟨ALe.pv PLe.nil, ALe.refl, trivial⟩⟩
theorem sl_ne {id z : Nat} {α : Type} {f : α → List PV} {L : List α} (h : L ≠ []) {n : Nat} (hn : L.length = n) : slP id z (L.map f) = .ms id z 0 n := by
  subst hn
  cases L with
  | nil => exact absurd rfl h
  | cons a l => simp [slP]
theorem ob_ne {ty z : Nat} {α : Type} {f : α → List PV} {L : List α} (h : L ≠ []) : obP ty z (L.map f) = some ⟨ty, z, false, .p (L.map f)⟩ := by
  cases L with
  | nil => exact absurd rfl h
  | cons a l => rfl
theorem le_take {a : AV} {α : Type} {f : α → List PV} {z i : Nat} {l : List α} : ALeL [.pv (.sl z (List.take i (List.drop 0 (l.map f)))), a] [.pv (.sl z ((l.take i).map f)), a] := by
  rw [List.drop_zero, List.map_take]; exact ⟨ALe.refl, ALe.refl, trivial⟩
theorem le_whole2 {a : AV} {α : Type} {f : α → List PV} {z : Nat} {l : List α} : ALeL [.pv (.sl z (List.take l.length (List.drop 0 (l.map f)))), a] [.pv (.sl z (l.map f)), a] := by
  exact ⟨ALe.pv (whole_le (Nat.le_refl _)), ALe.refl, trivial⟩
theorem any_meet {J : List Sess} {i : Nat} {s : Sess} : (J.take i).any (fun t => pB (meetP34 s t)) = true ↔ ∃ (k : Nat) (t : Sess), k < i ∧ J[k]? = some t ∧ meetP34 s t := by
  rw [List.any_eq_true]
  constructor
  · rintro ⟨t, ht, h⟩
    obtain ⟨k, hk⟩ := List.getElem?_of_mem ht
    have hki : k < i := by
      have := (List.getElem?_eq_some_iff.1 hk).1
      rw [List.length_take] at this; omega
    rw [List.getElem?_take_of_lt hki] at hk
    exact ⟨k, t, hki, hk, by simpa using h⟩
  · rintro ⟨k, t, h1, h2, h3⟩
    exact ⟨t, List.mem_of_getElem? (i := k) (by rw [List.getElem?_take_of_lt h1]; exact h2), by simpa using h3⟩
theorem c_norm0 (l : List Sess) (w : Int) (hl : l.length ≤ 1000000000) : PCall Tryd.prog 13 [.pv (encSess l), vint .i64 w] (fun r => Leq r (.tup [.pv (encSess (normV l w)), vint .i64 (normE l w)])) := by
  refine acall_of tok mixed 81 rfl (fn := Tryd.f13) (c := Tryd.f13.body.getD .skip) (by kernel_rfl) (by kernel_rfl) (by kernel_rfl) rfl 0 rfl ?_
  repeat' (first | refine o1 ?_ | refine o2 ?_ | refine k1 ?_ | refine k2 ?_ | refine k3 ?_ | refine k4 ?_ | refine k6 ?_ | refine k7 ?_ | refine k8 ?_ | refine And.intro ?_ ?_ | exact trivial | refine o3 ?_ | refine o4 ?_ | refine o5 ?_ | refine o6 ?_ | refine k5 ?_ | (intro h; first | exact Bool.noConfusion h | exact nz _ h | exact nl h | (simp at h; done) | (simp at h; first | (exfalso; omega) | skip) | skip) | (change retOk _ _ _ _; refine ret_pure rfl trivial ?_) | exact (rfl : allOne _ = true) | (refine (?_ : (0 : Int) ≤ _); omega) | (refine (?_ : _ ≠ _); omega) | (refine (?_ : srcLen _ = rowsLen _); rfl) | exact Nat.le_of_ble_eq_true rfl | exact (by kernel_rfl : drawOk _ _ = true) | refine eqv_len_map ?_ | refine eqv_size ?_ | refine eqv_put (eqv_ck ?_) | refine eqv_zero ?_ | refine eqv_wrap (by omega) (by omega) ?_ | refine eqv_u64 (by omega) (by omega) ?_ | refine eqv_u8 (by omega) (by omega) ?_ | refine eqv_to _ (set_map rfl rfl) ?_ | refine ⟨_, _, (by first | rfl | assumption), at_map (by assumption), ?_⟩ | refine ⟨_, _, (by first | rfl | assumption), (by assumption), ?_⟩ | refine ⟨_, at_map (by assumption), (by decide), ?_⟩ | refine ⟨_, at_map (by assumption), ?_⟩ | (refine (?_ : _ ≤ 140737488355328); simp [rowsLen] <;> omega) | (refine (?_ : _ ≤ 9223372036854775807); simp [rowsLen] <;> omega) | (refine (?_ : _ = rowsLen _); simp [rowsLen] <;> omega) | refine eqv_to _ (app_row rfl) (eqv_to _ app_len ?_) | refine eqv_to _ (app_first rfl) (eqv_to 1 rfl ?_) | refine idx_sl (at_map (by assumption)) (by omega) ?_ | refine idx_ms _ (by first | rfl | assumption) (by first | assumption | omega) ?_ | fail)
  · obtain ⟨h1, h2⟩ := nf3 (l := l) (w := w) (by omega)
    exact leq_nil h2 h1
  · have hw : 1 ≤ w ∧ w ≤ 20 := by omega
    refine loop_at (fun i : Nat => [(23, vint .i64 i)]) (fun _ => []) (fun i => i ≤ l.length ∧ ∀ j, j < i → sessAt l w j = 0) (fun i => l.length - i) 0 ⟨Nat.zero_le _, fun j hj => by omega⟩ (by repeat' (first | exact trivial | exact rfl | exact ⟨_, rfl, ALe.refl⟩ | refine And.intro ?_ ?_)) (by repeat' (first | exact trivial | exact rfl | exact ⟨_, rfl, ALe.refl⟩ | refine And.intro ?_ ?_)) ?_
    intro i ⟨hi, hall⟩
    rcases Nat.lt_or_ge i l.length with hlt | hge
    · obtain ⟨s, hs⟩ := getE hlt
      have hc := c_chk s w
      have hsa := sessAt_at (w := w) hs
      generalize sessE s w = E at *
      repeat' (first | refine o1 ?_ | refine o2 ?_ | refine k1 ?_ | refine k2 ?_ | refine k3 ?_ | refine k4 ?_ | refine k6 ?_ | refine k7 ?_ | refine k8 ?_ | refine And.intro ?_ ?_ | exact trivial | refine o3 ?_ | refine o4 ?_ | refine o5 ?_ | refine o6 ?_ | refine k5 ?_ | (intro h; first | exact Bool.noConfusion h | exact nz _ h | exact nl h | (simp at h; done) | (simp at h; first | (exfalso; omega) | skip) | skip) | (change retOk _ _ _ _; refine ret_pure rfl trivial ?_) | exact (rfl : allOne _ = true) | (refine (?_ : (0 : Int) ≤ _); omega) | (refine (?_ : _ ≠ _); omega) | (refine (?_ : srcLen _ = rowsLen _); rfl) | exact Nat.le_of_ble_eq_true rfl | exact (by kernel_rfl : drawOk _ _ = true) | refine eqv_len_map ?_ | refine eqv_size ?_ | refine eqv_put (eqv_ck ?_) | refine eqv_zero ?_ | refine eqv_wrap (by omega) (by omega) ?_ | refine eqv_u64 (by omega) (by omega) ?_ | refine eqv_u8 (by omega) (by omega) ?_ | refine eqv_to _ (set_map rfl rfl) ?_ | refine ⟨_, _, (by first | rfl | assumption), at_map (by assumption), ?_⟩ | refine ⟨_, _, (by first | rfl | assumption), (by assumption), ?_⟩ | refine ⟨_, at_map (by assumption), (by decide), ?_⟩ | refine ⟨_, at_map (by assumption), ?_⟩ | (refine (?_ : _ ≤ 140737488355328); simp [rowsLen] <;> omega) | (refine (?_ : _ ≤ 9223372036854775807); simp [rowsLen] <;> omega) | (refine (?_ : _ = rowsLen _); simp [rowsLen] <;> omega) | refine eqv_to _ (app_row rfl) (eqv_to _ app_len ?_) | refine eqv_to _ (app_first rfl) (eqv_to 1 rfl ?_) | refine idx_sl (at_map (by assumption)) (by omega) ?_ | refine idx_ms _ (by first | rfl | assumption) (by first | assumption | omega) ?_ | (change vcFun _ _ _ _ _; refine call_eq rfl (by repeat' (first | trivial | refine And.intro ?_ ?_ | (show 0 + _ ≤ List.length _; simp))) ALeL.refl (hc) rfl ?_) | fail)
      · obtain ⟨h1, h2⟩ := nf_s hw hall hlt (by rw [hsa]; assumption)
        exact leq_nil h2 (h1.trans hsa)
      · exact ⟨i + 1, ⟨by omega, all_lt_succ hall (by rw [hsa]; assumption)⟩, by omega, back [] rfl rfl trivial (by repeat' (first | exact trivial | exact rfl | exact ⟨_, rfl, ALe.refl⟩ | refine And.intro ?_ ?_))⟩
    · obtain rfl : i = l.length := by omega
      have hs0 := sing_all hall
      have hsi := sing_zero.1 hs0
      repeat' (first | refine o1 ?_ | refine o2 ?_ | refine k1 ?_ | refine k2 ?_ | refine k3 ?_ | refine k4 ?_ | refine k6 ?_ | refine k7 ?_ | refine k8 ?_ | refine And.intro ?_ ?_ | exact trivial | refine o3 ?_ | refine o4 ?_ | refine o5 ?_ | refine o6 ?_ | refine k5 ?_ | (intro h; first | exact Bool.noConfusion h | exact nz _ h | exact nl h | (simp at h; done) | (simp at h; first | (exfalso; omega) | skip) | skip) | (change retOk _ _ _ _; refine ret_pure rfl trivial ?_) | exact (rfl : allOne _ = true) | (refine (?_ : (0 : Int) ≤ _); omega) | (refine (?_ : _ ≠ _); omega) | (refine (?_ : srcLen _ = rowsLen _); rfl) | exact Nat.le_of_ble_eq_true rfl | exact (by kernel_rfl : drawOk _ _ = true) | refine eqv_len_map ?_ | refine eqv_size ?_ | refine eqv_put (eqv_ck ?_) | refine eqv_zero ?_ | refine eqv_wrap (by omega) (by omega) ?_ | refine eqv_u64 (by omega) (by omega) ?_ | refine eqv_u8 (by omega) (by omega) ?_ | refine eqv_to _ (set_map rfl rfl) ?_ | refine ⟨_, _, (by first | rfl | assumption), at_map (by assumption), ?_⟩ | refine ⟨_, _, (by first | rfl | assumption), (by assumption), ?_⟩ | refine ⟨_, at_map (by assumption), (by decide), ?_⟩ | refine ⟨_, at_map (by assumption), ?_⟩ | (refine (?_ : _ ≤ 140737488355328); simp [rowsLen] <;> omega) | (refine (?_ : _ ≤ 9223372036854775807); simp [rowsLen] <;> omega) | (refine (?_ : _ = rowsLen _); simp [rowsLen] <;> omega) | refine eqv_to _ (app_row rfl) (eqv_to _ app_len ?_) | refine eqv_to _ (app_first rfl) (eqv_to 1 rfl ?_) | refine idx_sl (at_map (by assumption)) (by omega) ?_ | refine idx_ms _ (by first | rfl | assumption) (by first | assumption | omega) ?_ | fail)
      refine loop_for (fun i : Nat => [(9, slP 0 6 ((joinedV (l.take i)).map Sess.row)), (34, .pv (encSess l)), (35, vint .i64 l.length), (36, vint .i64 i)]) (fun i => [obP 45 6 ((joinedV (l.take i)).map Sess.row)]) (fun i => i ≤ l.length) (fun i => l.length - i) 0 (Nat.zero_le _) ?_ ?_
      · exact back [0] rfl rfl (by repeat' (first | exact trivial | exact rfl | exact ren_get rfl | refine kept_ob rfl ?_ | exact ⟨_, rfl, ALe.refl⟩ | refine And.intro ?_ ?_)) (by repeat' (first | exact trivial | exact rfl | exact ren_get rfl | refine kept_ob rfl ?_ | exact ⟨_, rfl, ALe.refl⟩ | refine And.intro ?_ ?_))
      intro i hi
      rcases Nat.lt_or_ge i l.length with hlt | hge
      · obtain ⟨s, hs⟩ := getE hlt
        have hjs := joined_succ hs
        have hjl := joined_len (l := l) (i := i)
        generalize joinedV (l.take i) = L at *
        have hix := c_indexF L 28 [.ia s.row] (fun t => pB (alikeP s t)) (by omega) (fun t _ => c_norm1 s t)
        rcases join_at34 (s := s) (L := L) with ⟨h1, h2⟩ | ⟨k, t, h1, h2, h3⟩
        · rw [h1] at hix
          repeat' (first | (refine fv_sl ?_) | (refine fh_ob ?_) | ((change vcFun _ _ [_, _] _ _; refine call_sl2 rfl rfl ⟨trivial, trivial⟩ hix rfl ?_)) | ((refine o_app rfl rfl rfl rfl rfl rfl rfl rfl rfl rfl rfl (by rw [List.length_map]; omega) (by rw [List.length_map]; omega) ?_)) | refine o1 ?_ | refine o2 ?_ | refine k1 ?_ | refine k2 ?_ | refine k3 ?_ | refine k4 ?_ | refine k6 ?_ | refine k7 ?_ | refine k8 ?_ | refine And.intro ?_ ?_ | exact trivial | refine o3 ?_ | refine o4 ?_ | refine o5 ?_ | refine o6 ?_ | refine k5 ?_ | (intro h; first | exact Bool.noConfusion h | exact nz _ h | exact nl h | (simp at h; done) | (simp at h; first | (exfalso; omega) | skip) | skip) | (change retOk _ _ _ _; refine ret_pure rfl trivial ?_) | exact (rfl : allOne _ = true) | (refine (?_ : (0 : Int) ≤ _); omega) | (refine (?_ : _ ≠ _); omega) | (refine (?_ : srcLen _ = rowsLen _); rfl) | exact Nat.le_of_ble_eq_true rfl | exact (by kernel_rfl : drawOk _ _ = true) | refine eqv_len_map ?_ | refine eqv_size ?_ | refine eqv_put (eqv_ck ?_) | refine eqv_zero ?_ | refine eqv_wrap (by omega) (by omega) ?_ | refine eqv_u64 (by omega) (by omega) ?_ | refine eqv_u8 (by omega) (by omega) ?_ | refine eqv_to _ (set_map rfl rfl) ?_ | refine ⟨_, _, (by first | rfl | assumption), at_map (by assumption), ?_⟩ | refine ⟨_, _, (by first | rfl | assumption), (by assumption), ?_⟩ | refine ⟨_, at_map (by assumption), (by decide), ?_⟩ | refine ⟨_, at_map (by assumption), ?_⟩ | (refine (?_ : _ ≤ 140737488355328); simp [rowsLen] <;> omega) | (refine (?_ : _ ≤ 9223372036854775807); simp [rowsLen] <;> omega) | (refine (?_ : _ = rowsLen _); simp [rowsLen] <;> omega) | refine eqv_to _ (app_row rfl) (eqv_to _ app_len ?_) | refine eqv_to _ (app_first rfl) (eqv_to 1 rfl ?_) | refine idx_sl (at_map (by assumption)) (by omega) ?_ | refine idx_ms _ (by first | rfl | assumption) (by first | assumption | omega) ?_ | fail)
          refine ⟨i + 1, hlt, by omega, ?_⟩
          rw [hjs, h2, map_snoc, sl_app, ob_app]
          exact back [3] rfl rfl (by repeat' (first | exact trivial | exact rfl | exact ren_get rfl | refine kept_ob rfl ?_ | exact ⟨_, rfl, ALe.refl⟩ | refine And.intro ?_ ?_)) (by repeat' (first | exact trivial | exact rfl | exact ren_get rfl | refine kept_ob rfl ?_ | exact ⟨_, rfl, ALe.refl⟩ | refine And.intro ?_ ?_))
        · rw [h1] at hix
          have hL : L ≠ [] := fun e => by rw [e] at h2; simp at h2
          have hk := (List.getElem?_eq_some_iff.1 h2).1
          have hrow : (L.map Sess.row)[k]? = some t.row := at_map h2
          have hset : (L.map Sess.row).set k (splice 1 [.val (.int .i64 (bits .or .i64 t.time.weeks s.time.weeks))] t.row) = (L.set k (orW t s)).map Sess.row := by rw [List.map_set]; rfl
          have hL2 : L.set k (orW t s) ≠ [] := fun e => hL (by have := congrArg List.length e; rw [List.length_set] at this; exact List.eq_nil_of_length_eq_zero this)
          have e1 := sl_ne (id := 0) (z := 6) (f := Sess.row) hL rfl
          have e2 := ob_ne (ty := 45) (z := 6) (f := Sess.row) hL
          rw [e1, e2]
          repeat' (first | ((change vcFun _ _ _ _ _; refine call_eq rfl (by repeat' (first | trivial | refine And.intro ?_ ?_ | (show 0 + _ ≤ List.length _; simp))) le_whole2 hix rfl ?_)) | (refine idx_ms k rfl hk ?_) | (refine ⟨_, hrow, (Nat.le_of_ble_eq_true rfl), ?_⟩) | (refine ⟨_, hrow, ?_⟩) | (refine (eqv_rfl ?_ : eqv (bits _ _ _ _) _)) | (refine eqv_to _ hset ?_) | refine o1 ?_ | refine o2 ?_ | refine k1 ?_ | refine k2 ?_ | refine k3 ?_ | refine k4 ?_ | refine k6 ?_ | refine k7 ?_ | refine k8 ?_ | refine And.intro ?_ ?_ | exact trivial | refine o3 ?_ | refine o4 ?_ | refine o5 ?_ | refine o6 ?_ | refine k5 ?_ | (intro h; first | exact Bool.noConfusion h | exact nz _ h | exact nl h | (simp at h; done) | (simp at h; first | (exfalso; omega) | skip) | skip) | (change retOk _ _ _ _; refine ret_pure rfl trivial ?_) | exact (rfl : allOne _ = true) | (refine (?_ : (0 : Int) ≤ _); omega) | (refine (?_ : _ ≠ _); omega) | (refine (?_ : srcLen _ = rowsLen _); rfl) | exact Nat.le_of_ble_eq_true rfl | exact (by kernel_rfl : drawOk _ _ = true) | refine eqv_len_map ?_ | refine eqv_size ?_ | refine eqv_put (eqv_ck ?_) | refine eqv_zero ?_ | refine eqv_wrap (by omega) (by omega) ?_ | refine eqv_u64 (by omega) (by omega) ?_ | refine eqv_u8 (by omega) (by omega) ?_ | refine eqv_to _ (set_map rfl rfl) ?_ | refine ⟨_, _, (by first | rfl | assumption), at_map (by assumption), ?_⟩ | refine ⟨_, _, (by first | rfl | assumption), (by assumption), ?_⟩ | refine ⟨_, at_map (by assumption), (by decide), ?_⟩ | refine ⟨_, at_map (by assumption), ?_⟩ | (refine (?_ : _ ≤ 140737488355328); simp [rowsLen] <;> omega) | (refine (?_ : _ ≤ 9223372036854775807); simp [rowsLen] <;> omega) | (refine (?_ : _ = rowsLen _); simp [rowsLen] <;> omega) | refine eqv_to _ (app_row rfl) (eqv_to _ app_len ?_) | refine eqv_to _ (app_first rfl) (eqv_to 1 rfl ?_) | refine idx_sl (at_map (by assumption)) (by omega) ?_ | refine idx_ms _ (by first | rfl | assumption) (by first | assumption | omega) ?_ | fail)
          refine ⟨i + 1, hlt, by omega, ?_⟩
          rw [hjs, h3, sl_ne hL2 (List.length_set ..), ob_ne hL2]
          exact back [0] rfl rfl (by repeat' (first | exact trivial | exact rfl | exact ren_get rfl | refine kept_ob rfl ?_ | exact ⟨_, rfl, ALe.refl⟩ | refine And.intro ?_ ?_)) (by repeat' (first | exact trivial | exact rfl | exact ren_get rfl | refine kept_ob rfl ?_ | exact ⟨_, rfl, ALe.refl⟩ | refine And.intro ?_ ?_))
      · obtain rfl : i = l.length := by omega
        rw [List.take_length]
        have n_d := nf_d (l := l) hw hs0
        have n_2 := nf_2 (l := l) hw hs0
        have n_0 := nf_0 (l := l) hw hs0
        have hjl := joined_len (l := l) (i := l.length)
        have hjo := joined_ok hs0
        rw [List.take_length] at hjl
        generalize joinedV l = J at *
        by_cases hJ : J = []
        · subst hJ
          repeat' (first | (refine fv_sl ?_) | (refine fh_ob ?_) | refine o1 ?_ | refine o2 ?_ | refine k1 ?_ | refine k2 ?_ | refine k3 ?_ | refine k4 ?_ | refine k6 ?_ | refine k7 ?_ | refine k8 ?_ | refine And.intro ?_ ?_ | exact trivial | refine o3 ?_ | refine o4 ?_ | refine o5 ?_ | refine o6 ?_ | refine k5 ?_ | (intro h; first | exact Bool.noConfusion h | exact nz _ h | exact nl h | (simp at h; done) | (simp at h; first | (exfalso; omega) | skip) | skip) | (change retOk _ _ _ _; refine ret_pure rfl trivial ?_) | exact (rfl : allOne _ = true) | (refine (?_ : (0 : Int) ≤ _); omega) | (refine (?_ : _ ≠ _); omega) | (refine (?_ : srcLen _ = rowsLen _); rfl) | exact Nat.le_of_ble_eq_true rfl | exact (by kernel_rfl : drawOk _ _ = true) | refine eqv_len_map ?_ | refine eqv_size ?_ | refine eqv_put (eqv_ck ?_) | refine eqv_zero ?_ | refine eqv_wrap (by omega) (by omega) ?_ | refine eqv_u64 (by omega) (by omega) ?_ | refine eqv_u8 (by omega) (by omega) ?_ | refine eqv_to _ (set_map rfl rfl) ?_ | refine ⟨_, _, (by first | rfl | assumption), at_map (by assumption), ?_⟩ | refine ⟨_, _, (by first | rfl | assumption), (by assumption), ?_⟩ | refine ⟨_, at_map (by assumption), (by decide), ?_⟩ | refine ⟨_, at_map (by assumption), ?_⟩ | (refine (?_ : _ ≤ 140737488355328); simp [rowsLen] <;> omega) | (refine (?_ : _ ≤ 9223372036854775807); simp [rowsLen] <;> omega) | (refine (?_ : _ = rowsLen _); simp [rowsLen] <;> omega) | refine eqv_to _ (app_row rfl) (eqv_to _ app_len ?_) | refine eqv_to _ (app_first rfl) (eqv_to 1 rfl ?_) | refine idx_sl (at_map (by assumption)) (by omega) ?_ | refine idx_ms _ (by first | rfl | assumption) (by first | assumption | omega) ?_ | fail)
          refine loop_for (fun u : Nat => [(9, nilA), (63, nilA), (64, vint .i64 0), (65, vint .i64 0)]) (fun _ => []) (fun _ => True) (fun _ => 0) 0 trivial ?_ ?_
          · exact back [] rfl rfl trivial (by repeat' (first | exact trivial | exact rfl | exact ren_get rfl | refine kept_ob rfl ?_ | exact ⟨_, rfl, ALe.refl⟩ | refine And.intro ?_ ?_))
          intro u _
          repeat' (first | refine o1 ?_ | refine o2 ?_ | refine k1 ?_ | refine k2 ?_ | refine k3 ?_ | refine k4 ?_ | refine k6 ?_ | refine k7 ?_ | refine k8 ?_ | refine And.intro ?_ ?_ | exact trivial | refine o3 ?_ | refine o4 ?_ | refine o5 ?_ | refine o6 ?_ | refine k5 ?_ | (intro h; first | exact Bool.noConfusion h | exact nz _ h | exact nl h | (simp at h; done) | (simp at h; first | (exfalso; omega) | skip) | skip) | (change retOk _ _ _ _; refine ret_pure rfl trivial ?_) | exact (rfl : allOne _ = true) | (refine (?_ : (0 : Int) ≤ _); omega) | (refine (?_ : _ ≠ _); omega) | (refine (?_ : srcLen _ = rowsLen _); rfl) | exact Nat.le_of_ble_eq_true rfl | exact (by kernel_rfl : drawOk _ _ = true) | refine eqv_len_map ?_ | refine eqv_size ?_ | refine eqv_put (eqv_ck ?_) | refine eqv_zero ?_ | refine eqv_wrap (by omega) (by omega) ?_ | refine eqv_u64 (by omega) (by omega) ?_ | refine eqv_u8 (by omega) (by omega) ?_ | refine eqv_to _ (set_map rfl rfl) ?_ | refine ⟨_, _, (by first | rfl | assumption), at_map (by assumption), ?_⟩ | refine ⟨_, _, (by first | rfl | assumption), (by assumption), ?_⟩ | refine ⟨_, at_map (by assumption), (by decide), ?_⟩ | refine ⟨_, at_map (by assumption), ?_⟩ | (refine (?_ : _ ≤ 140737488355328); simp [rowsLen] <;> omega) | (refine (?_ : _ ≤ 9223372036854775807); simp [rowsLen] <;> omega) | (refine (?_ : _ = rowsLen _); simp [rowsLen] <;> omega) | refine eqv_to _ (app_row rfl) (eqv_to _ app_len ?_) | refine eqv_to _ (app_first rfl) (eqv_to 1 rfl ?_) | refine idx_sl (at_map (by assumption)) (by omega) ?_ | refine idx_ms _ (by first | rfl | assumption) (by first | assumption | omega) ?_ | (change vcFun _ _ _ _ _; refine call_eq rfl (by repeat' (first | trivial | refine And.intro ?_ ?_ | (show 0 + _ ≤ List.length _; simp))) ALeL.refl (c_sortedN) rfl ?_) | fail)
          obtain ⟨h1, h2⟩ := n_0 (fun i k a b _ ha _ => by simp at ha) (Nat.zero_le _)
          exact leq_nil h2 h1
        · rw [sl_ne hJ rfl, ob_ne hJ]
          repeat' (first | refine o1 ?_ | refine o2 ?_ | refine k1 ?_ | refine k2 ?_ | refine k3 ?_ | refine k4 ?_ | refine k6 ?_ | refine k7 ?_ | refine k8 ?_ | refine And.intro ?_ ?_ | exact trivial | refine o3 ?_ | refine o4 ?_ | refine o5 ?_ | refine o6 ?_ | refine k5 ?_ | (intro h; first | exact Bool.noConfusion h | exact nz _ h | exact nl h | (simp at h; done) | (simp at h; first | (exfalso; omega) | skip) | skip) | (change retOk _ _ _ _; refine ret_pure rfl trivial ?_) | exact (rfl : allOne _ = true) | (refine (?_ : (0 : Int) ≤ _); omega) | (refine (?_ : _ ≠ _); omega) | (refine (?_ : srcLen _ = rowsLen _); rfl) | exact Nat.le_of_ble_eq_true rfl | exact (by kernel_rfl : drawOk _ _ = true) | refine eqv_len_map ?_ | refine eqv_size ?_ | refine eqv_put (eqv_ck ?_) | refine eqv_zero ?_ | refine eqv_wrap (by omega) (by omega) ?_ | refine eqv_u64 (by omega) (by omega) ?_ | refine eqv_u8 (by omega) (by omega) ?_ | refine eqv_to _ (set_map rfl rfl) ?_ | refine ⟨_, _, (by first | rfl | assumption), at_map (by assumption), ?_⟩ | refine ⟨_, _, (by first | rfl | assumption), (by assumption), ?_⟩ | refine ⟨_, at_map (by assumption), (by decide), ?_⟩ | refine ⟨_, at_map (by assumption), ?_⟩ | (refine (?_ : _ ≤ 140737488355328); simp [rowsLen] <;> omega) | (refine (?_ : _ ≤ 9223372036854775807); simp [rowsLen] <;> omega) | (refine (?_ : _ = rowsLen _); simp [rowsLen] <;> omega) | refine eqv_to _ (app_row rfl) (eqv_to _ app_len ?_) | refine eqv_to _ (app_first rfl) (eqv_to 1 rfl ?_) | refine idx_sl (at_map (by assumption)) (by omega) ?_ | refine idx_ms _ (by first | rfl | assumption) (by first | assumption | omega) ?_ | fail)
          refine loop_at (fun i : Nat => [(65, vint .i64 i)]) (fun _ => []) (fun i => i ≤ J.length ∧ ∀ p, p < i → ∀ (q : Nat) (a b : Sess), q < p → J[p]? = some a → J[q]? = some b → ¬ meetP34 a b) (fun i => J.length - i) 0 ⟨Nat.zero_le _, fun j hj => by omega⟩ (by repeat' (first | exact trivial | exact rfl | exact ⟨_, rfl, ALe.refl⟩ | refine And.intro ?_ ?_)) (by repeat' (first | exact trivial | exact rfl | exact ⟨_, rfl, ALe.refl⟩ | refine And.intro ?_ ?_)) ?_
          intro i ⟨hi, hall3⟩
          rcases Nat.lt_or_ge i J.length with hlt | hge2
          · obtain ⟨s, hs⟩ := getE hlt
            have hc := c_containsF (J.take i) 31 [.ia s.row] (fun t => pB (meetP34 s t)) (by rw [List.length_take]; omega) (fun t _ => c_norm2 s t)
            have ha := any_meet (J := J) (i := i) (s := s)
            generalize (J.take i).any (fun t => pB (meetP34 s t)) = B at *
            repeat' (first | (refine ⟨0, i, rfl, rfl, Nat.zero_le _, (by omega), ?_⟩) | (refine eqv_to i (Nat.sub_zero i) ?_) | (refine idx_ms i rfl hlt ?_) | (refine ⟨_, at_map hs, ?_⟩) | ((change vcFun _ _ _ _ _; refine call_eq rfl (by repeat' (first | trivial | refine And.intro ?_ ?_ | (show 0 + _ ≤ List.length _; rw [List.length_map]; omega))) le_take hc rfl ?_)) | refine o1 ?_ | refine o2 ?_ | refine k1 ?_ | refine k2 ?_ | refine k3 ?_ | refine k4 ?_ | refine k6 ?_ | refine k7 ?_ | refine k8 ?_ | refine And.intro ?_ ?_ | exact trivial | refine o3 ?_ | refine o4 ?_ | refine o5 ?_ | refine o6 ?_ | refine k5 ?_ | (intro h; first | exact Bool.noConfusion h | exact nz _ h | exact nl h | (simp at h; done) | (simp at h; first | (exfalso; omega) | skip) | skip) | (change retOk _ _ _ _; refine ret_pure rfl trivial ?_) | exact (rfl : allOne _ = true) | (refine (?_ : (0 : Int) ≤ _); omega) | (refine (?_ : _ ≠ _); omega) | (refine (?_ : srcLen _ = rowsLen _); rfl) | exact Nat.le_of_ble_eq_true rfl | exact (by kernel_rfl : drawOk _ _ = true) | refine eqv_len_map ?_ | refine eqv_size ?_ | refine eqv_put (eqv_ck ?_) | refine eqv_zero ?_ | refine eqv_wrap (by omega) (by omega) ?_ | refine eqv_u64 (by omega) (by omega) ?_ | refine eqv_u8 (by omega) (by omega) ?_ | refine eqv_to _ (set_map rfl rfl) ?_ | refine ⟨_, _, (by first | rfl | assumption), at_map (by assumption), ?_⟩ | refine ⟨_, _, (by first | rfl | assumption), (by assumption), ?_⟩ | refine ⟨_, at_map (by assumption), (by decide), ?_⟩ | refine ⟨_, at_map (by assumption), ?_⟩ | (refine (?_ : _ ≤ 140737488355328); simp [rowsLen] <;> omega) | (refine (?_ : _ ≤ 9223372036854775807); simp [rowsLen] <;> omega) | (refine (?_ : _ = rowsLen _); simp [rowsLen] <;> omega) | refine eqv_to _ (app_row rfl) (eqv_to _ app_len ?_) | refine eqv_to _ (app_first rfl) (eqv_to 1 rfl ?_) | refine idx_sl (at_map (by assumption)) (by omega) ?_ | refine idx_ms _ (by first | rfl | assumption) (by first | assumption | omega) ?_ | fail)
            · obtain ⟨k, t, q1, q2, q3⟩ := ha.1 h
              obtain ⟨h1, h2⟩ := n_d fun hap => hap i k s t q1 hs q2 q3
              exact leq_nil h2 h1
            · have hno : ∀ (q : Nat) (b : Sess), q < i → J[q]? = some b → ¬ meetP34 s b := fun q b hq hb hm => by
                have := ha.2 ⟨q, b, hq, hb, hm⟩; rw [h] at this; cases this
              exact ⟨i + 1, ⟨hlt, all_lt_succ hall3 fun q a b hq ha' hb => by rw [hs] at ha'; cases ha'; exact hno q b hq hb⟩, by omega, back [0] rfl rfl ⟨rfl, trivial⟩ (by repeat' (first | exact trivial | exact rfl | exact ⟨_, rfl, ALe.refl⟩ | refine And.intro ?_ ?_))⟩
          · have hap : apartQ meetP34 J := fun p q a b hq ha hb => hall3 p (by have := (List.getElem?_eq_some_iff.1 ha).1; omega) q a b hq ha hb
            repeat' (first | ((change vcFun _ _ _ _ _; refine call_obj [0] [some ⟨45, 6, false, .p (J.map Sess.row)⟩] [.ms 0 6 0 J.length] rfl ⟨rfl, trivial⟩ rfl (c_sorted J hJ (by omega) (fun s hs => (sess_ok (hjo s hs)).2.1.1.1) (comparable_all hjo hap)) ?_; rintro r H' ⟨rfl, rfl⟩)) | refine o1 ?_ | refine o2 ?_ | refine k1 ?_ | refine k2 ?_ | refine k3 ?_ | refine k4 ?_ | refine k6 ?_ | refine k7 ?_ | refine k8 ?_ | refine And.intro ?_ ?_ | exact trivial | refine o3 ?_ | refine o4 ?_ | refine o5 ?_ | refine o6 ?_ | refine k5 ?_ | (intro h; first | exact Bool.noConfusion h | exact nz _ h | exact nl h | (simp at h; done) | (simp at h; first | (exfalso; omega) | skip) | skip) | (change retOk _ _ _ _; refine ret_pure rfl trivial ?_) | exact (rfl : allOne _ = true) | (refine (?_ : (0 : Int) ≤ _); omega) | (refine (?_ : _ ≠ _); omega) | (refine (?_ : srcLen _ = rowsLen _); rfl) | exact Nat.le_of_ble_eq_true rfl | exact (by kernel_rfl : drawOk _ _ = true) | refine eqv_len_map ?_ | refine eqv_size ?_ | refine eqv_put (eqv_ck ?_) | refine eqv_zero ?_ | refine eqv_wrap (by omega) (by omega) ?_ | refine eqv_u64 (by omega) (by omega) ?_ | refine eqv_u8 (by omega) (by omega) ?_ | refine eqv_to _ (set_map rfl rfl) ?_ | refine ⟨_, _, (by first | rfl | assumption), at_map (by assumption), ?_⟩ | refine ⟨_, _, (by first | rfl | assumption), (by assumption), ?_⟩ | refine ⟨_, at_map (by assumption), (by decide), ?_⟩ | refine ⟨_, at_map (by assumption), ?_⟩ | (refine (?_ : _ ≤ 140737488355328); simp [rowsLen] <;> omega) | (refine (?_ : _ ≤ 9223372036854775807); simp [rowsLen] <;> omega) | (refine (?_ : _ = rowsLen _); simp [rowsLen] <;> omega) | refine eqv_to _ (app_row rfl) (eqv_to _ app_len ?_) | refine eqv_to _ (app_first rfl) (eqv_to 1 rfl ?_) | refine idx_sl (at_map (by assumption)) (by omega) ?_ | refine idx_ms _ (by first | rfl | assumption) (by first | assumption | omega) ?_ | fail)
            · obtain ⟨h1, h2⟩ := n_2 hap (by omega)
              exact leq_nil h2 h1
            · obtain ⟨h1, h2⟩ := n_0 hap (by omega)
              rw [h1, h2]
              refine ret_pure rfl (by repeat' (first | exact True.intro | refine And.intro ?_ ?_ | (show 0 + _ ≤ List.length _; simp))) ?_
              exact ⟨ALe.tup ⟨ALe.pv (whole_le (Nat.le_refl _)), ALe.refl, trivial⟩⟩
  · obtain ⟨h1, h2⟩ := nf3 (l := l) (w := w) (by omega)
    exact leq_nil h2 h1
theorem c_norm (l : List Sess) (w : Int) (hl : l.length ≤ 1000000000) : PCall Tryd.prog 13 [.pv (encSess l), vint .i64 w] (fun r => r = .tup [.pv (encSess (normV l w)), vint .i64 (normE l w)]) := (c_norm0 l w hl).weak fun r k => ⟨_, k.le, rfl⟩
end Go.Proofs.YtbcacaodfpgflaaDoor.Cw

/-
  A whole list is appended to a slice that grows.
-/
namespace Go.Proofs.YtbcacaodfpgflaaDoor.Cw
open Go Go.Cw Go.Proofs
set_option linter.unusedVariables false

section
variable {P : Program} {T : Tab} {id z ty : Nat} {rows ys : List (List PV)}
theorem st_appL {site b size bytes : Nat} {agg eagg : Bool} {zero ezero : List PV} {etk : TK} {s x : Operand} {t : TypeId} {d : Tmp} {Γ : Slots} {H : Heap} {K : Slots → Heap → Prop} (hs : ev Γ s = some (slP id z rows)) (hx : ev Γ x = some (.pv (.sl z ys))) (hl : Cw.look T t = some ⟨size, bytes, agg, .slice ty, zero⟩) (he : Cw.look T ty = some ⟨z, b, eagg, etk, ezero⟩) (hz : Nat.blt 0 z = true)
    (ho : H[id]? = some (obP ty z rows)) (hsite : H[site]? = some none) (hb : (rows.length + ys.length) * b ≤ 140737488355328) (hn : rows.length + ys.length ≤ 9223372036854775807)
    (h : forceH (app H [(id, none), (site, obP ty z (rows ++ ys))]) fun H2 => K ((d, slP site z (rows ++ ys)) :: Γ) H2) :
    vcStep P T site (some d) (.call { callee := .builtin .append, args := #[s, x], argTypes := #[t, t] }) Γ H K := by
  have hbq : Nat.beq t t = true := Nat.beq_refl t
  have hzz : Nat.beq z z = true := Nat.beq_refl z
  have hty : Nat.beq ty ty = true := Nat.beq_refl ty
  rw [forceH_eq] at h
  cases rows with
  | nil =>
    rw [app_none ho] at h
    simp only [vcStep, vcOp, hbq, hs, hx, vcAppend, hl, he, srcOk, hzz, hz, srcRows, Bool.and_self, Bool.true_and, slP, nilA, eqv_eq, putK, forceV, appK, forceH_eq]
    cases ys with
    | nil =>
      have e : app H [(site, obP ty z ([] ++ []))] = H := by
        show H.set site none = H
        apply List.ext_getElem?
        intro k
        rw [List.getElem?_set]
        by_cases e : site = k
        · subst e
          rw [if_pos rfl, if_pos (List.getElem?_eq_some_iff.1 hsite).1, hsite]
        · rw [if_neg e]
      rw [e] at h
      exact ⟨rfl, by simp [rowsLen], by simp [rowsLen], fun e => by simp [rowsLen] at e, fun _ => h⟩
    | cons a l =>
      refine ⟨rfl, by simpa [rowsLen] using hb, by simpa [rowsLen] using hn, fun _ => ?_, fun e => by simp [rowsLen] at e⟩
      exact h
  | cons a l =>
    simp only [vcStep, vcOp, hbq, hs, hx, vcAppend, hl, he, srcOk, hzz, hz, srcRows, ho, obP, Bool.and_self, Bool.true_and, slP, eqv_eq, putK, forceV, appK, forceH_eq, Bool.not_false, hty, dropR, catRows, List.drop_zero]
    have el : rowsLen (.p (a :: l ++ ys)) = (a :: l).length + ys.length := by simp only [rowsLen, List.length_append]
    refine ⟨by simp [rowsLen], rfl, by rw [el]; exact hb, by rw [el]; exact hn, ?_⟩
    have e : rowsLen (.p (a :: l ++ ys)) = (a :: (l ++ ys)).length := by simp [rowsLen]
    rw [e]
    exact h
theorem o_appL {n site b size bytes : Nat} {agg eagg : Bool} {zero ezero : List PV} {etk : TK} {s x : Operand} {t : TypeId} {d : Tmp} {Γ : Slots} {H : Heap} {K : Slots → Heap → Prop} {o : Oper} {all l : List Oper} {dc : Known}
    (hop : o.op = .call { callee := .builtin .append, args := #[s, x], argTypes := #[t, t] }) (hg : o.guard = none) (hd : o.dst = some d) (hdn : Nat.blt d n = true) (hs : ev Γ s = some (slP id z rows)) (hx : ev Γ x = some (.pv (.sl z ys))) (hl : Cw.look T t = some ⟨size, bytes, agg, .slice ty, zero⟩) (he : Cw.look T ty = some ⟨z, b, eagg, etk, ezero⟩) (hz : Nat.blt 0 z = true)
    (ho : H[id]? = some (obP ty z rows)) (hsite : H[site]? = some none) (hb : (rows.length + ys.length) * b ≤ 140737488355328) (hn : rows.length + ys.length ≤ 9223372036854775807)
    (h : knOut dc d fun d2 => forceH (app H [(id, none), (site, obP ty z (rows ++ ys))]) fun H2 => xOps P T n all l (site + 1) K d2 ((d, slP site z (rows ++ ys)) :: Γ) H2) :
    xOps P T n all (o :: l) site K dc Γ H := by
  refine ops_cons ?_
  have e1 : dstOk n o = true := by unfold dstOk; rw [hd]; exact hdn
  have e2 : isAlloc o.op = true := by rw [hop]; rfl
  rw [e1, e2]
  show vcGuard all Γ dc o.guard _ _
  rw [hg]
  simp only [vcGuard, knPut, hd, hop, knRes, simpOp]
  exact knOut_mono dc _ _ (fun d2 hh => st_appL hs hx hl he hz ho hsite hb hn hh) h
end
end Go.Proofs.YtbcacaodfpgflaaDoor.Cw

/-
  Contracts: the normal form, by the reference.
-/
namespace Go.Proofs.YtbcacaodfpgflaaDoor.Cw
open Go Go.Cw Go.Proofs
set_option linter.unusedVariables false
set_option maxRecDepth 100000
set_option maxHeartbeats 8000000

theorem join_first {s : Sess} : ∀ {L : List Sess} {k : Nat} {t : Sess}, (∀ q : Nat, q < k → ∀ y, L[q]? = some y → ¬ alikeP y s) → L[k]? = some t → alikeP t s → joinOne L s = L.set k (orW t s)
  | [], k, t, _, h, _ => by simp at h
  | u :: L, 0, t, _, h, ha => by
    have h : u = t := by simpa using h
    subst h
    unfold joinOne; rw [if_pos (pB_t ha)]; rfl
  | u :: L, k + 1, t, h0, h, ha => by
    unfold joinOne
    rw [if_neg (by rw [pB_f (h0 0 (Nat.succ_pos _) u rfl)]; simp), join_first (L := L) (k := k) (t := t) (fun q hq y hy => h0 (q + 1) (by omega) y (by simpa using hy)) (by simpa using h) ha]
    rfl
theorem join_new {s : Sess} : ∀ {L : List Sess}, (∀ q : Nat, q < L.length → ∀ y, L[q]? = some y → ¬ alikeP y s) → joinOne L s = L ++ [s]
  | [], _ => rfl
  | u :: L, h0 => by
    unfold joinOne
    rw [if_neg (by rw [pB_f (h0 0 (Nat.succ_pos _) u rfl)]; simp), join_new fun q hq y hy => h0 (q + 1) (by simpa using hq) y (by simpa using hy)]
    rfl
theorem c_joined0 (l : List Sess) (hl : l.length ≤ 1000000000) : PCall Tryd.prog 36 [.pv (encSess l)] (fun r => Leq r (.pv (encSess (joinedV l)))) := by
  refine acall_of tok mixed 58 rfl (fn := Tryd.f36) (c := Tryd.f36.body.getD .skip) (by kernel_rfl) (by kernel_rfl) (by kernel_rfl) rfl 0 rfl ?_
  repeat' (first | refine o1 ?_ | refine o2 ?_ | refine k1 ?_ | refine k2 ?_ | refine k3 ?_ | refine k4 ?_ | refine k6 ?_ | refine k7 ?_ | refine k8 ?_ | refine And.intro ?_ ?_ | exact trivial | refine o3 ?_ | refine o4 ?_ | refine o5 ?_ | refine o6 ?_ | refine k5 ?_ | (intro h; first | exact Bool.noConfusion h | exact nz _ h | exact nl h | (simp at h; done) | (simp at h; first | (exfalso; omega) | skip) | skip) | (change retOk _ _ _ _; refine ret_pure rfl trivial ?_) | exact (rfl : allOne _ = true) | (refine (?_ : (0 : Int) ≤ _); omega) | (refine (?_ : _ ≠ _); omega) | (refine (?_ : srcLen _ = rowsLen _); rfl) | exact Nat.le_of_ble_eq_true rfl | exact (by kernel_rfl : drawOk _ _ = true) | refine eqv_len_map ?_ | refine eqv_size ?_ | refine eqv_put (eqv_ck ?_) | refine eqv_zero ?_ | refine eqv_wrap (by omega) (by omega) ?_ | refine eqv_u64 (by omega) (by omega) ?_ | refine eqv_u8 (by omega) (by omega) ?_ | refine eqv_to _ (set_map rfl rfl) ?_ | refine ⟨_, _, (by first | rfl | assumption), at_map (by assumption), ?_⟩ | refine ⟨_, _, (by first | rfl | assumption), (by assumption), ?_⟩ | refine ⟨_, at_map (by assumption), (by decide), ?_⟩ | refine ⟨_, at_map (by assumption), ?_⟩ | (refine (?_ : _ ≤ 140737488355328); simp [rowsLen] <;> omega) | (refine (?_ : _ ≤ 9223372036854775807); simp [rowsLen] <;> omega) | (refine (?_ : _ = rowsLen _); simp [rowsLen] <;> omega) | refine eqv_to _ (app_row rfl) (eqv_to _ app_len ?_) | refine eqv_to _ (app_first rfl) (eqv_to 1 rfl ?_) | refine idx_sl (at_map (by assumption)) (by omega) ?_ | refine idx_ms _ (by first | rfl | assumption) (by first | assumption | omega) ?_ | fail)
  refine loop_for (fun i : Nat => [(0, .pv (encSess l)), (3, slP 0 6 ((joinedV (l.take i)).map Sess.row)), (4, vint .i64 i)]) (fun i => [obP 45 6 ((joinedV (l.take i)).map Sess.row)]) (fun i => i ≤ l.length) (fun i => l.length - i) 0 (Nat.zero_le _) ?_ ?_
  · exact back [0] rfl rfl (by repeat' (first | exact trivial | exact rfl | exact ren_get rfl | refine kept_ob rfl ?_ | exact ⟨_, rfl, ALe.refl⟩ | refine And.intro ?_ ?_)) (by repeat' (first | exact trivial | exact rfl | exact ren_get rfl | refine kept_ob rfl ?_ | exact ⟨_, rfl, ALe.refl⟩ | refine And.intro ?_ ?_))
  intro i hi
  rcases Nat.lt_or_ge i l.length with hlt | hge
  · obtain ⟨s, hs⟩ := getE hlt
    have hjs := joined_succ hs
    have hjl := joined_len (l := l) (i := i)
    generalize joinedV (l.take i) = L at *
    by_cases hL : L = []
    · subst hL
      have hn : joinOne [] s = [] ++ [s] := rfl
      repeat' (first | (refine fv_sl ?_) | (refine fh_ob ?_) | refine o1 ?_ | refine o2 ?_ | refine k1 ?_ | refine k2 ?_ | refine k3 ?_ | refine k4 ?_ | refine k6 ?_ | refine k7 ?_ | refine k8 ?_ | refine And.intro ?_ ?_ | exact trivial | refine o3 ?_ | refine o4 ?_ | refine o5 ?_ | refine o6 ?_ | refine k5 ?_ | (intro h; first | exact Bool.noConfusion h | exact nz _ h | exact nl h | (simp at h; done) | (simp at h; first | (exfalso; omega) | skip) | skip) | (change retOk _ _ _ _; refine ret_pure rfl trivial ?_) | exact (rfl : allOne _ = true) | (refine (?_ : (0 : Int) ≤ _); omega) | (refine (?_ : _ ≠ _); omega) | (refine (?_ : srcLen _ = rowsLen _); rfl) | exact Nat.le_of_ble_eq_true rfl | exact (by kernel_rfl : drawOk _ _ = true) | refine eqv_len_map ?_ | refine eqv_size ?_ | refine eqv_put (eqv_ck ?_) | refine eqv_zero ?_ | refine eqv_wrap (by omega) (by omega) ?_ | refine eqv_u64 (by omega) (by omega) ?_ | refine eqv_u8 (by omega) (by omega) ?_ | refine eqv_to _ (set_map rfl rfl) ?_ | refine ⟨_, _, (by first | rfl | assumption), at_map (by assumption), ?_⟩ | refine ⟨_, _, (by first | rfl | assumption), (by assumption), ?_⟩ | refine ⟨_, at_map (by assumption), (by decide), ?_⟩ | refine ⟨_, at_map (by assumption), ?_⟩ | (refine (?_ : _ ≤ 140737488355328); simp [rowsLen] <;> omega) | (refine (?_ : _ ≤ 9223372036854775807); simp [rowsLen] <;> omega) | (refine (?_ : _ = rowsLen _); simp [rowsLen] <;> omega) | refine eqv_to _ (app_row rfl) (eqv_to _ app_len ?_) | refine eqv_to _ (app_first rfl) (eqv_to 1 rfl ?_) | refine idx_sl (at_map (by assumption)) (by omega) ?_ | refine idx_ms _ (by first | rfl | assumption) (by first | assumption | omega) ?_ | fail)
      refine loop_for (fun u : Nat => [(0, .pv (encSess l)), (3, nilA), (4, vint .i64 i), (5, vint .i64 0)]) (fun _ => []) (fun _ => True) (fun _ => 0) 0 trivial ?_ ?_
      · exact back [] rfl rfl trivial (by repeat' (first | exact trivial | exact rfl | exact ren_get rfl | refine kept_ob rfl ?_ | exact ⟨_, rfl, ALe.refl⟩ | refine And.intro ?_ ?_))
      intro u _
      repeat' (first | (refine idx_sl (k := i) (at_map hs) (by omega) ?_) | refine o1 ?_ | refine o2 ?_ | refine k1 ?_ | refine k2 ?_ | refine k3 ?_ | refine k4 ?_ | refine k6 ?_ | refine k7 ?_ | refine k8 ?_ | refine And.intro ?_ ?_ | exact trivial | refine o3 ?_ | refine o4 ?_ | refine o5 ?_ | refine o6 ?_ | refine k5 ?_ | (intro h; first | exact Bool.noConfusion h | exact nz _ h | exact nl h | (simp at h; done) | (simp at h; first | (exfalso; omega) | skip) | skip) | (change retOk _ _ _ _; refine ret_pure rfl trivial ?_) | exact (rfl : allOne _ = true) | (refine (?_ : (0 : Int) ≤ _); omega) | (refine (?_ : _ ≠ _); omega) | (refine (?_ : srcLen _ = rowsLen _); rfl) | exact Nat.le_of_ble_eq_true rfl | exact (by kernel_rfl : drawOk _ _ = true) | refine eqv_len_map ?_ | refine eqv_size ?_ | refine eqv_put (eqv_ck ?_) | refine eqv_zero ?_ | refine eqv_wrap (by omega) (by omega) ?_ | refine eqv_u64 (by omega) (by omega) ?_ | refine eqv_u8 (by omega) (by omega) ?_ | refine eqv_to _ (set_map rfl rfl) ?_ | refine ⟨_, _, (by first | rfl | assumption), at_map (by assumption), ?_⟩ | refine ⟨_, _, (by first | rfl | assumption), (by assumption), ?_⟩ | refine ⟨_, at_map (by assumption), (by decide), ?_⟩ | refine ⟨_, at_map (by assumption), ?_⟩ | (refine (?_ : _ ≤ 140737488355328); simp [rowsLen] <;> omega) | (refine (?_ : _ ≤ 9223372036854775807); simp [rowsLen] <;> omega) | (refine (?_ : _ = rowsLen _); simp [rowsLen] <;> omega) | refine eqv_to _ (app_row rfl) (eqv_to _ app_len ?_) | refine eqv_to _ (app_first rfl) (eqv_to 1 rfl ?_) | refine idx_sl (at_map (by assumption)) (by omega) ?_ | refine idx_ms _ (by first | rfl | assumption) (by first | assumption | omega) ?_ | fail)
      all_goals try (exfalso; omega)
      all_goals
        refine ⟨i + 1, hlt, by omega, ?_⟩
        rw [hjs, hn]
        exact back [1] rfl rfl (by repeat' (first | exact trivial | exact rfl | exact ren_get rfl | refine kept_ob rfl ?_ | exact ⟨_, rfl, ALe.refl⟩ | refine And.intro ?_ ?_)) (by repeat' (first | exact trivial | exact rfl | exact ren_get rfl | refine kept_ob rfl ?_ | exact ⟨_, rfl, ALe.refl⟩ | refine And.intro ?_ ?_))
    · have e1 := sl_ne (id := 0) (z := 6) (f := Sess.row) hL rfl
      have e2 := ob_ne (ty := 45) (z := 6) (f := Sess.row) hL
      rw [e1, e2]
      repeat' (first | refine o1 ?_ | refine o2 ?_ | refine k1 ?_ | refine k2 ?_ | refine k3 ?_ | refine k4 ?_ | refine k6 ?_ | refine k7 ?_ | refine k8 ?_ | refine And.intro ?_ ?_ | exact trivial | refine o3 ?_ | refine o4 ?_ | refine o5 ?_ | refine o6 ?_ | refine k5 ?_ | (intro h; first | exact Bool.noConfusion h | exact nz _ h | exact nl h | (simp at h; done) | (simp at h; first | (exfalso; omega) | skip) | skip) | (change retOk _ _ _ _; refine ret_pure rfl trivial ?_) | exact (rfl : allOne _ = true) | (refine (?_ : (0 : Int) ≤ _); omega) | (refine (?_ : _ ≠ _); omega) | (refine (?_ : srcLen _ = rowsLen _); rfl) | exact Nat.le_of_ble_eq_true rfl | exact (by kernel_rfl : drawOk _ _ = true) | refine eqv_len_map ?_ | refine eqv_size ?_ | refine eqv_put (eqv_ck ?_) | refine eqv_zero ?_ | refine eqv_wrap (by omega) (by omega) ?_ | refine eqv_u64 (by omega) (by omega) ?_ | refine eqv_u8 (by omega) (by omega) ?_ | refine eqv_to _ (set_map rfl rfl) ?_ | refine ⟨_, _, (by first | rfl | assumption), at_map (by assumption), ?_⟩ | refine ⟨_, _, (by first | rfl | assumption), (by assumption), ?_⟩ | refine ⟨_, at_map (by assumption), (by decide), ?_⟩ | refine ⟨_, at_map (by assumption), ?_⟩ | (refine (?_ : _ ≤ 140737488355328); simp [rowsLen] <;> omega) | (refine (?_ : _ ≤ 9223372036854775807); simp [rowsLen] <;> omega) | (refine (?_ : _ = rowsLen _); simp [rowsLen] <;> omega) | refine eqv_to _ (app_row rfl) (eqv_to _ app_len ?_) | refine eqv_to _ (app_first rfl) (eqv_to 1 rfl ?_) | refine idx_sl (at_map (by assumption)) (by omega) ?_ | refine idx_ms _ (by first | rfl | assumption) (by first | assumption | omega) ?_ | fail)
      refine loop_at (fun k : Nat => [(5, vint .i64 k)]) (fun _ => []) (fun k => k ≤ L.length ∧ ∀ q, q < k → ∀ y, L[q]? = some y → ¬ alikeP y s) (fun k => L.length - k) 0 ⟨Nat.zero_le _, fun q hq => by omega⟩ (by repeat' (first | exact trivial | exact rfl | exact ⟨_, rfl, ALe.refl⟩ | refine And.intro ?_ ?_)) (by repeat' (first | exact trivial | exact rfl | exact ⟨_, rfl, ALe.refl⟩ | refine And.intro ?_ ?_)) ?_
      intro k ⟨hk, hall⟩
      rcases Nat.lt_or_ge k L.length with hkl | hkg
      · obtain ⟨t, ht⟩ := getE hkl
        have hset : (L.map Sess.row).set k (splice 1 [.val (.int .i64 (bits .or .i64 t.time.weeks s.time.weeks))] t.row) = (L.set k (orW t s)).map Sess.row := by rw [List.map_set]; rfl
        repeat' (first | (refine idx_sl (k := i) (at_map hs) rfl ?_) | (refine idx_ms k rfl hkl ?_) | (refine ⟨_, at_map ht, (Nat.le_of_ble_eq_true rfl), ?_⟩) | (refine ⟨_, at_map ht, ?_⟩) | (refine (eqv_rfl ?_ : eqv (bits _ _ _ _) _)) | (refine eqv_to _ hset ?_) | refine o1 ?_ | refine o2 ?_ | refine k1 ?_ | refine k2 ?_ | refine k3 ?_ | refine k4 ?_ | refine k6 ?_ | refine k7 ?_ | refine k8 ?_ | refine And.intro ?_ ?_ | exact trivial | refine o3 ?_ | refine o4 ?_ | refine o5 ?_ | refine o6 ?_ | refine k5 ?_ | (intro h; first | exact Bool.noConfusion h | exact nz _ h | exact nl h | (simp at h; done) | (simp at h; first | (exfalso; omega) | skip) | skip) | (change retOk _ _ _ _; refine ret_pure rfl trivial ?_) | exact (rfl : allOne _ = true) | (refine (?_ : (0 : Int) ≤ _); omega) | (refine (?_ : _ ≠ _); omega) | (refine (?_ : srcLen _ = rowsLen _); rfl) | exact Nat.le_of_ble_eq_true rfl | exact (by kernel_rfl : drawOk _ _ = true) | refine eqv_len_map ?_ | refine eqv_size ?_ | refine eqv_put (eqv_ck ?_) | refine eqv_zero ?_ | refine eqv_wrap (by omega) (by omega) ?_ | refine eqv_u64 (by omega) (by omega) ?_ | refine eqv_u8 (by omega) (by omega) ?_ | refine eqv_to _ (set_map rfl rfl) ?_ | refine ⟨_, _, (by first | rfl | assumption), at_map (by assumption), ?_⟩ | refine ⟨_, _, (by first | rfl | assumption), (by assumption), ?_⟩ | refine ⟨_, at_map (by assumption), (by decide), ?_⟩ | refine ⟨_, at_map (by assumption), ?_⟩ | (refine (?_ : _ ≤ 140737488355328); simp [rowsLen] <;> omega) | (refine (?_ : _ ≤ 9223372036854775807); simp [rowsLen] <;> omega) | (refine (?_ : _ = rowsLen _); simp [rowsLen] <;> omega) | refine eqv_to _ (app_row rfl) (eqv_to _ app_len ?_) | refine eqv_to _ (app_first rfl) (eqv_to 1 rfl ?_) | refine idx_sl (at_map (by assumption)) (by omega) ?_ | refine idx_ms _ (by first | rfl | assumption) (by first | assumption | omega) ?_ | (change vcFunD _ _ _ _ _; refine callD_eq rfl (by repeat' (first | trivial | refine And.intro ?_ ?_ | (show 0 + _ ≤ List.length _; simp))) ALeL.refl (c_ralike t s) rfl ?_) | fail)
        · exact ⟨k + 1, ⟨by omega, all_lt_succ hall fun y hy => by rw [ht] at hy; cases hy; exact h⟩, by omega, back [0] rfl rfl ⟨rfl, trivial⟩ (by repeat' (first | exact trivial | exact rfl | exact ⟨_, rfl, ALe.refl⟩ | refine And.intro ?_ ?_))⟩
        · have hL2 : L.set k (orW t s) ≠ [] := fun e => hL (by have := congrArg List.length e; rw [List.length_set] at this; exact List.eq_nil_of_length_eq_zero this)
          refine ⟨i + 1, hlt, by omega, ?_⟩
          rw [hjs, join_first hall ht (by assumption), sl_ne hL2 (List.length_set ..), ob_ne hL2]
          exact back [0] rfl rfl (by repeat' (first | exact trivial | exact rfl | exact ren_get rfl | refine kept_ob rfl ?_ | exact ⟨_, rfl, ALe.refl⟩ | refine And.intro ?_ ?_)) (by repeat' (first | exact trivial | exact rfl | exact ren_get rfl | refine kept_ob rfl ?_ | exact ⟨_, rfl, ALe.refl⟩ | refine And.intro ?_ ?_))
      · repeat' (first | (refine idx_sl (k := i) (at_map hs) rfl ?_) | refine o1 ?_ | refine o2 ?_ | refine k1 ?_ | refine k2 ?_ | refine k3 ?_ | refine k4 ?_ | refine k6 ?_ | refine k7 ?_ | refine k8 ?_ | refine And.intro ?_ ?_ | exact trivial | refine o3 ?_ | refine o4 ?_ | refine o5 ?_ | refine o6 ?_ | refine k5 ?_ | (intro h; first | exact Bool.noConfusion h | exact nz _ h | exact nl h | (simp at h; done) | (simp at h; first | (exfalso; omega) | skip) | skip) | (change retOk _ _ _ _; refine ret_pure rfl trivial ?_) | exact (rfl : allOne _ = true) | (refine (?_ : (0 : Int) ≤ _); omega) | (refine (?_ : _ ≠ _); omega) | (refine (?_ : srcLen _ = rowsLen _); rfl) | exact Nat.le_of_ble_eq_true rfl | exact (by kernel_rfl : drawOk _ _ = true) | refine eqv_len_map ?_ | refine eqv_size ?_ | refine eqv_put (eqv_ck ?_) | refine eqv_zero ?_ | refine eqv_wrap (by omega) (by omega) ?_ | refine eqv_u64 (by omega) (by omega) ?_ | refine eqv_u8 (by omega) (by omega) ?_ | refine eqv_to _ (set_map rfl rfl) ?_ | refine ⟨_, _, (by first | rfl | assumption), at_map (by assumption), ?_⟩ | refine ⟨_, _, (by first | rfl | assumption), (by assumption), ?_⟩ | refine ⟨_, at_map (by assumption), (by decide), ?_⟩ | refine ⟨_, at_map (by assumption), ?_⟩ | (refine (?_ : _ ≤ 140737488355328); simp [rowsLen] <;> omega) | (refine (?_ : _ ≤ 9223372036854775807); simp [rowsLen] <;> omega) | (refine (?_ : _ = rowsLen _); simp [rowsLen] <;> omega) | refine eqv_to _ (app_row rfl) (eqv_to _ app_len ?_) | refine eqv_to _ (app_first rfl) (eqv_to 1 rfl ?_) | refine idx_sl (at_map (by assumption)) (by omega) ?_ | refine idx_ms _ (by first | rfl | assumption) (by first | assumption | omega) ?_ | fail)
        have hnew : joinOne L s = L ++ [s] := join_new fun q hq y hy => hall q (by omega) y hy
        have hL2 : L ++ [s] ≠ [] := by simp
        refine ⟨i + 1, hlt, by omega, ?_⟩
        rw [hjs, hnew, sl_ne hL2 rfl, ob_ne hL2]
        exact back [2] rfl rfl (by repeat' (first | exact trivial | exact rfl | exact ren_get rfl | refine kept_ob rfl ?_ | exact ⟨_, rfl, ALe.refl⟩ | refine And.intro ?_ ?_)) (by repeat' (first | exact trivial | exact rfl | exact ren_get rfl | refine kept_ob rfl ?_ | exact ⟨_, rfl, ALe.refl⟩ | refine And.intro ?_ ?_))
  · obtain rfl : i = l.length := by omega
    rw [List.take_length]
    repeat' (first | (refine fv_sl ?_) | (refine fh_ob ?_) | refine o1 ?_ | refine o2 ?_ | refine k1 ?_ | refine k2 ?_ | refine k3 ?_ | refine k4 ?_ | refine k6 ?_ | refine k7 ?_ | refine k8 ?_ | refine And.intro ?_ ?_ | exact trivial | refine o3 ?_ | refine o4 ?_ | refine o5 ?_ | refine o6 ?_ | refine k5 ?_ | (intro h; first | exact Bool.noConfusion h | exact nz _ h | exact nl h | (simp at h; done) | (simp at h; first | (exfalso; omega) | skip) | skip) | (change retOk _ _ _ _; refine ret_pure rfl trivial ?_) | exact (rfl : allOne _ = true) | (refine (?_ : (0 : Int) ≤ _); omega) | (refine (?_ : _ ≠ _); omega) | (refine (?_ : srcLen _ = rowsLen _); rfl) | exact Nat.le_of_ble_eq_true rfl | exact (by kernel_rfl : drawOk _ _ = true) | refine eqv_len_map ?_ | refine eqv_size ?_ | refine eqv_put (eqv_ck ?_) | refine eqv_zero ?_ | refine eqv_wrap (by omega) (by omega) ?_ | refine eqv_u64 (by omega) (by omega) ?_ | refine eqv_u8 (by omega) (by omega) ?_ | refine eqv_to _ (set_map rfl rfl) ?_ | refine ⟨_, _, (by first | rfl | assumption), at_map (by assumption), ?_⟩ | refine ⟨_, _, (by first | rfl | assumption), (by assumption), ?_⟩ | refine ⟨_, at_map (by assumption), (by decide), ?_⟩ | refine ⟨_, at_map (by assumption), ?_⟩ | (refine (?_ : _ ≤ 140737488355328); simp [rowsLen] <;> omega) | (refine (?_ : _ ≤ 9223372036854775807); simp [rowsLen] <;> omega) | (refine (?_ : _ = rowsLen _); simp [rowsLen] <;> omega) | refine eqv_to _ (app_row rfl) (eqv_to _ app_len ?_) | refine eqv_to _ (app_first rfl) (eqv_to 1 rfl ?_) | refine idx_sl (at_map (by assumption)) (by omega) ?_ | refine idx_ms _ (by first | rfl | assumption) (by first | assumption | omega) ?_ | fail)
    exact ret_sl rfl ⟨ALe.refl⟩ leq_down
theorem c_joined (l : List Sess) (hl : l.length ≤ 1000000000) : PCall Tryd.prog 36 [.pv (encSess l)] (fun r => r = .pv (encSess (joinedV l))) := (c_joined0 l hl).weak fun r k => ⟨_, k.le, rfl⟩

theorem ord_succ {l : List Sess} {i : Nat} {s : Sess} (h : l[i]? = some s) : ordV (l.take (i + 1)) = insV (ordV (l.take i)) s := by
  unfold ordV; rw [take_snoc h, List.foldl_append]; rfl
theorem insK_t {x y : Sess} {out : List Sess} {k : Nat} (h : out[k]? = some y) (hb : befP x y) : insK x out (k + 1) = insK x out k := by
  show (if pB (∃ y, out[k]? = some y ∧ befP x y) then insK x out k else k + 1) = _
  rw [if_pos (pB_t ⟨y, h, hb⟩)]
theorem insK_f {x y : Sess} {out : List Sess} {k : Nat} (h : out[k]? = some y) (hb : ¬ befP x y) : insK x out (k + 1) = k + 1 := by
  show (if pB (∃ y, out[k]? = some y ∧ befP x y) then insK x out k else k + 1) = _
  rw [if_neg]
  rw [pB_f]
  · simp
  · rintro ⟨y', h1, h2⟩; rw [h] at h1; cases h1; exact hb h2
theorem Ghost.slX {n nh s id z ty m : Nat} {Γ Γ2 : Slots} {H H2 : Heap} {X Y : List (List PV)} (h : Cw.get Γ s = some (.ms id z 0 m)) (ho : H[id]? = some (some ⟨ty, z, false, .p X⟩)) (hm : m = X.length) (hne : X ≠ []) (e : X = Y)
    (k : ∀ H' : Heap, H'.length = H.length → (∀ i : Nat, i ≠ id → H'[i]? = H[i]?) → Ghost n nh ((s, .pv (.sl z Y)) :: Γ) H' Γ2 H2) : Ghost n nh Γ H Γ2 H2 := by
  subst e; subst hm
  cases X with
  | nil => exact absurd rfl hne
  | cons a X => exact Ghost.sl (rows := a :: X) h ho k
/-- A list from a place on. -/
theorem slice_at {α : Type} {i : Nat} {f : α → List PV} {xs : List α} {K : List (List PV) → Prop} (hi : i ≤ xs.length) (hk : K ((xs.drop i).map f)) :
    ∃ (l h : Nat), loIs (some (vint .i64 i)) l ∧ hiIs none (xs.map f).length h ∧ l ≤ h ∧ h ≤ (xs.map f).length ∧ eqv (((xs.map f).take h).drop l) K := by
  refine ⟨i, (xs.map f).length, rfl, rfl, by rw [List.length_map]; exact hi, Nat.le_refl _, ⟨_, rfl, ?_⟩⟩
  rw [List.take_length, ← List.map_drop]; exact hk
theorem c_ordered0 (l : List Sess) (hl : l.length ≤ 1000000000) (hs0 : ∀ s ∈ l, setP s.time.weeks 20) : PCall Tryd.prog 35 [.pv (encSess l)] (fun r => Leq r (.pv (encSess (ordV l)))) := by
  refine acall_of tok mixed 47 rfl (fn := Tryd.f35) (c := Tryd.f35.body.getD .skip) (by kernel_rfl) (by kernel_rfl) (by kernel_rfl) rfl 0 rfl ?_
  repeat' (first | refine o1 ?_ | refine o2 ?_ | refine k1 ?_ | refine k2 ?_ | refine k3 ?_ | refine k4 ?_ | refine k6 ?_ | refine k7 ?_ | refine k8 ?_ | refine And.intro ?_ ?_ | exact trivial | refine o3 ?_ | refine o4 ?_ | refine o5 ?_ | refine o6 ?_ | refine k5 ?_ | (intro h; first | exact Bool.noConfusion h | exact nz _ h | exact nl h | (simp at h; done) | (simp at h; first | (exfalso; omega) | skip) | skip) | (change retOk _ _ _ _; refine ret_pure rfl trivial ?_) | exact (rfl : allOne _ = true) | (refine (?_ : (0 : Int) ≤ _); omega) | (refine (?_ : _ ≠ _); omega) | (refine (?_ : srcLen _ = rowsLen _); rfl) | exact Nat.le_of_ble_eq_true rfl | exact (by kernel_rfl : drawOk _ _ = true) | refine eqv_len_map ?_ | refine eqv_size ?_ | refine eqv_put (eqv_ck ?_) | refine eqv_zero ?_ | refine eqv_wrap (by omega) (by omega) ?_ | refine eqv_u64 (by omega) (by omega) ?_ | refine eqv_u8 (by omega) (by omega) ?_ | refine eqv_to _ (set_map rfl rfl) ?_ | refine ⟨_, _, (by first | rfl | assumption), at_map (by assumption), ?_⟩ | refine ⟨_, _, (by first | rfl | assumption), (by assumption), ?_⟩ | refine ⟨_, at_map (by assumption), (by decide), ?_⟩ | refine ⟨_, at_map (by assumption), ?_⟩ | (refine (?_ : _ ≤ 140737488355328); simp [rowsLen] <;> omega) | (refine (?_ : _ ≤ 9223372036854775807); simp [rowsLen] <;> omega) | (refine (?_ : _ = rowsLen _); simp [rowsLen] <;> omega) | refine eqv_to _ (app_row rfl) (eqv_to _ app_len ?_) | refine eqv_to _ (app_first rfl) (eqv_to 1 rfl ?_) | refine idx_sl (at_map (by assumption)) (by omega) ?_ | refine idx_ms _ (by first | rfl | assumption) (by first | assumption | omega) ?_ | fail)
  refine loop_for (fun i : Nat => [(0, .pv (encSess l)), (3, .pv (encSess (ordV (l.take i)))), (4, vint .i64 i)]) (fun i => []) (fun i => i ≤ l.length) (fun i => l.length - i) 0 (Nat.zero_le _) ?_ ?_
  · exact (Ghost.weak (s := 3) rfl (ALe.pv PLe.nil)).trans (back [] rfl rfl trivial (by repeat' (first | exact trivial | exact rfl | exact ren_get rfl | refine kept_ob rfl ?_ | exact ⟨_, rfl, ALe.refl⟩ | refine And.intro ?_ ?_)))
  intro i hi
  rcases Nat.lt_or_ge i l.length with hlt | hge
  · obtain ⟨s, hs⟩ := getE hlt
    have hos := ord_succ hs
    have hol := ord_len (l := l.take i)
    have hom : ∀ y ∈ ordV (l.take i), setP y.time.weeks 20 := fun y hy => hs0 y (List.mem_of_mem_take (ord_perm.subset hy))
    have hss := hs0 s (List.mem_of_getElem? hs)
    rw [List.length_take, Nat.min_eq_left hi] at hol
    generalize ordV (l.take i) = L at *
    repeat' (first | refine o1 ?_ | refine o2 ?_ | refine k1 ?_ | refine k2 ?_ | refine k3 ?_ | refine k4 ?_ | refine k6 ?_ | refine k7 ?_ | refine k8 ?_ | refine And.intro ?_ ?_ | exact trivial | refine o3 ?_ | refine o4 ?_ | refine o5 ?_ | refine o6 ?_ | refine k5 ?_ | (intro h; first | exact Bool.noConfusion h | exact nz _ h | exact nl h | (simp at h; done) | (simp at h; first | (exfalso; omega) | skip) | skip) | (change retOk _ _ _ _; refine ret_pure rfl trivial ?_) | exact (rfl : allOne _ = true) | (refine (?_ : (0 : Int) ≤ _); omega) | (refine (?_ : _ ≠ _); omega) | (refine (?_ : srcLen _ = rowsLen _); rfl) | exact Nat.le_of_ble_eq_true rfl | exact (by kernel_rfl : drawOk _ _ = true) | refine eqv_len_map ?_ | refine eqv_size ?_ | refine eqv_put (eqv_ck ?_) | refine eqv_zero ?_ | refine eqv_wrap (by omega) (by omega) ?_ | refine eqv_u64 (by omega) (by omega) ?_ | refine eqv_u8 (by omega) (by omega) ?_ | refine eqv_to _ (set_map rfl rfl) ?_ | refine ⟨_, _, (by first | rfl | assumption), at_map (by assumption), ?_⟩ | refine ⟨_, _, (by first | rfl | assumption), (by assumption), ?_⟩ | refine ⟨_, at_map (by assumption), (by decide), ?_⟩ | refine ⟨_, at_map (by assumption), ?_⟩ | (refine (?_ : _ ≤ 140737488355328); simp [rowsLen] <;> omega) | (refine (?_ : _ ≤ 9223372036854775807); simp [rowsLen] <;> omega) | (refine (?_ : _ = rowsLen _); simp [rowsLen] <;> omega) | refine eqv_to _ (app_row rfl) (eqv_to _ app_len ?_) | refine eqv_to _ (app_first rfl) (eqv_to 1 rfl ?_) | refine idx_sl (at_map (by assumption)) (by omega) ?_ | refine idx_ms _ (by first | rfl | assumption) (by first | assumption | omega) ?_ | fail)
    refine loop_at (fun k : Nat => [(5, vint .i64 k)]) (fun _ => []) (fun k => k ≤ L.length ∧ insK s L L.length = insK s L k) (fun k => k) L.length ⟨Nat.le_refl _, rfl⟩ (by repeat' (first | exact trivial | exact rfl | exact ⟨_, rfl, ALe.refl⟩ | refine And.intro ?_ ?_)) (by repeat' (first | exact trivial | exact rfl | exact ⟨_, rfl, ALe.refl⟩ | refine And.intro ?_ ?_)) ?_
    intro k ⟨hk, hki⟩
    have hend : ∀ k : Nat, k ≤ L.length → insK s L L.length = k → (L.take k).map Sess.row ++ [s.row] ++ (L.drop k).map Sess.row = (ordV (l.take (i + 1))).map Sess.row := fun k hk e => by
      rw [hos]; unfold insV; rw [e]; simp
    rcases k with _ | k
    · have he := hend 0 (Nat.zero_le _) hki
      repeat' (first | (refine slice_to (i := 0) (Nat.zero_le _) ?_) | ((refine o_appL (id := 0) (rows := []) rfl rfl rfl rfl rfl rfl rfl rfl rfl rfl rfl (by simp) (by simp) ?_)) | (refine slice_at (i := 0) (Nat.zero_le _) ?_) | (refine (eqv_rfl ?_ : eqv (Rows.p _) _)) | (refine (eqv_rfl ?_ : eqv (rowsLen _) _)) | refine o1 ?_ | refine o2 ?_ | refine k1 ?_ | refine k2 ?_ | refine k3 ?_ | refine k4 ?_ | refine k6 ?_ | refine k7 ?_ | refine k8 ?_ | refine And.intro ?_ ?_ | exact trivial | refine o3 ?_ | refine o4 ?_ | refine o5 ?_ | refine o6 ?_ | refine k5 ?_ | (intro h; first | exact Bool.noConfusion h | exact nz _ h | exact nl h | (simp at h; done) | (simp at h; first | (exfalso; omega) | skip) | skip) | (change retOk _ _ _ _; refine ret_pure rfl trivial ?_) | exact (rfl : allOne _ = true) | (refine (?_ : (0 : Int) ≤ _); omega) | (refine (?_ : _ ≠ _); omega) | (refine (?_ : srcLen _ = rowsLen _); rfl) | exact Nat.le_of_ble_eq_true rfl | exact (by kernel_rfl : drawOk _ _ = true) | refine eqv_len_map ?_ | refine eqv_size ?_ | refine eqv_put (eqv_ck ?_) | refine eqv_zero ?_ | refine eqv_wrap (by omega) (by omega) ?_ | refine eqv_u64 (by omega) (by omega) ?_ | refine eqv_u8 (by omega) (by omega) ?_ | refine eqv_to _ (set_map rfl rfl) ?_ | refine ⟨_, _, (by first | rfl | assumption), at_map (by assumption), ?_⟩ | refine ⟨_, _, (by first | rfl | assumption), (by assumption), ?_⟩ | refine ⟨_, at_map (by assumption), (by decide), ?_⟩ | refine ⟨_, at_map (by assumption), ?_⟩ | (refine (?_ : _ ≤ 140737488355328); simp [rowsLen] <;> omega) | (refine (?_ : _ ≤ 9223372036854775807); simp [rowsLen] <;> omega) | (refine (?_ : _ = rowsLen _); simp [rowsLen] <;> omega) | refine eqv_to _ (app_row rfl) (eqv_to _ app_len ?_) | refine eqv_to _ (app_first rfl) (eqv_to 1 rfl ?_) | refine idx_sl (at_map (by assumption)) (by omega) ?_ | refine idx_ms _ (by first | rfl | assumption) (by first | assumption | omega) ?_ | fail)
      all_goals
        refine ⟨i + 1, hlt, by omega, ?_⟩
        refine Ghost.slX (s := 3) (id := 3) rfl rfl rfl (fun e => by cases e) he fun H' hl hH => back [] rfl rfl trivial (by repeat' (first | exact trivial | exact rfl | exact ren_get rfl | refine kept_ob rfl ?_ | exact ⟨_, rfl, ALe.refl⟩ | refine And.intro ?_ ?_))
    · obtain ⟨y, hy⟩ := getE (show k < L.length by omega)
      have hb := c_before s y hss (hom y (List.mem_of_getElem? hy))
      repeat' (first | (refine idx_sl (k := i) (at_map hs) rfl ?_) | (refine idx_sl (k := k) (at_map hy) (by omega) ?_) | (refine slice_to (i := k + 1) (by omega) ?_) | ((refine o_appL (id := 0) (rows := []) rfl rfl rfl rfl rfl rfl rfl rfl rfl rfl rfl (by rw [List.length_map, List.length_take]; show (0 + _) * _ ≤ _; omega) (by rw [List.length_map, List.length_take]; show 0 + _ ≤ _; omega) ?_)) | ((refine o_appD rfl rfl rfl rfl rfl rfl rfl rfl rfl rfl rfl (by show (([] ++ _ : List (List PV)).length + 1) * _ ≤ _; rw [List.nil_append, List.length_map, List.length_take]; omega) (by show ([] ++ _ : List (List PV)).length + 1 ≤ _; rw [List.nil_append, List.length_map, List.length_take]; omega) ?_)) | (refine fv_sl ?_) | (refine fh_ob ?_) | (refine slice_at (i := k + 1) (by omega) ?_) | (refine (eqv_rfl ?_ : eqv (Rows.p _) _)) | (refine (eqv_rfl ?_ : eqv (rowsLen _) _)) | refine o1 ?_ | refine o2 ?_ | refine k1 ?_ | refine k2 ?_ | refine k3 ?_ | refine k4 ?_ | refine k6 ?_ | refine k7 ?_ | refine k8 ?_ | refine And.intro ?_ ?_ | exact trivial | refine o3 ?_ | refine o4 ?_ | refine o5 ?_ | refine o6 ?_ | refine k5 ?_ | (intro h; first | exact Bool.noConfusion h | exact nz _ h | exact nl h | (simp at h; done) | (simp at h; first | (exfalso; omega) | skip) | skip) | (change retOk _ _ _ _; refine ret_pure rfl trivial ?_) | exact (rfl : allOne _ = true) | (refine (?_ : (0 : Int) ≤ _); omega) | (refine (?_ : _ ≠ _); omega) | (refine (?_ : srcLen _ = rowsLen _); rfl) | exact Nat.le_of_ble_eq_true rfl | exact (by kernel_rfl : drawOk _ _ = true) | refine eqv_len_map ?_ | refine eqv_size ?_ | refine eqv_put (eqv_ck ?_) | refine eqv_zero ?_ | refine eqv_wrap (by omega) (by omega) ?_ | refine eqv_u64 (by omega) (by omega) ?_ | refine eqv_u8 (by omega) (by omega) ?_ | refine eqv_to _ (set_map rfl rfl) ?_ | refine ⟨_, _, (by first | rfl | assumption), at_map (by assumption), ?_⟩ | refine ⟨_, _, (by first | rfl | assumption), (by assumption), ?_⟩ | refine ⟨_, at_map (by assumption), (by decide), ?_⟩ | refine ⟨_, at_map (by assumption), ?_⟩ | (refine (?_ : _ ≤ 140737488355328); simp [rowsLen] <;> omega) | (refine (?_ : _ ≤ 9223372036854775807); simp [rowsLen] <;> omega) | (refine (?_ : _ = rowsLen _); simp [rowsLen] <;> omega) | refine eqv_to _ (app_row rfl) (eqv_to _ app_len ?_) | refine eqv_to _ (app_first rfl) (eqv_to 1 rfl ?_) | refine idx_sl (at_map (by assumption)) (by omega) ?_ | refine idx_ms _ (by first | rfl | assumption) (by first | assumption | omega) ?_ | (change vcFunD _ _ _ _ _; refine callD_eq rfl (by repeat' (first | trivial | refine And.intro ?_ ?_ | (show 0 + _ ≤ List.length _; simp))) ALeL.refl (hb) rfl ?_) | fail)
      · exact ⟨k, ⟨by omega, hki.trans (insK_t hy h)⟩, by omega, back [] rfl rfl trivial (And.intro (slot_eq rfl (congrArg (vint .i64) (show ((k + 1 : Nat) : Int) - 1 = (k : Int) by omega))) (by repeat' (first | exact trivial | exact rfl | exact ⟨_, rfl, ALe.refl⟩ | refine And.intro ?_ ?_)))⟩
      all_goals
        have he := hend (k + 1) hk (hki.trans (insK_f hy h))
        refine ⟨i + 1, hlt, by omega, ?_⟩
        refine Ghost.slX (s := 3) (id := 3) rfl rfl rfl (fun e => by have := congrArg List.length e; simp at this) he fun H' hl hH => back [] rfl rfl trivial (by repeat' (first | exact trivial | exact rfl | exact ren_get rfl | refine kept_ob rfl ?_ | exact ⟨_, rfl, ALe.refl⟩ | refine And.intro ?_ ?_))
  · obtain rfl : i = l.length := by omega
    rw [List.take_length]
    repeat' (first | refine o1 ?_ | refine o2 ?_ | refine k1 ?_ | refine k2 ?_ | refine k3 ?_ | refine k4 ?_ | refine k6 ?_ | refine k7 ?_ | refine k8 ?_ | refine And.intro ?_ ?_ | exact trivial | refine o3 ?_ | refine o4 ?_ | refine o5 ?_ | refine o6 ?_ | refine k5 ?_ | (intro h; first | exact Bool.noConfusion h | exact nz _ h | exact nl h | (simp at h; done) | (simp at h; first | (exfalso; omega) | skip) | skip) | (change retOk _ _ _ _; refine ret_pure rfl trivial ?_) | exact (rfl : allOne _ = true) | (refine (?_ : (0 : Int) ≤ _); omega) | (refine (?_ : _ ≠ _); omega) | (refine (?_ : srcLen _ = rowsLen _); rfl) | exact Nat.le_of_ble_eq_true rfl | exact (by kernel_rfl : drawOk _ _ = true) | refine eqv_len_map ?_ | refine eqv_size ?_ | refine eqv_put (eqv_ck ?_) | refine eqv_zero ?_ | refine eqv_wrap (by omega) (by omega) ?_ | refine eqv_u64 (by omega) (by omega) ?_ | refine eqv_u8 (by omega) (by omega) ?_ | refine eqv_to _ (set_map rfl rfl) ?_ | refine ⟨_, _, (by first | rfl | assumption), at_map (by assumption), ?_⟩ | refine ⟨_, _, (by first | rfl | assumption), (by assumption), ?_⟩ | refine ⟨_, at_map (by assumption), (by decide), ?_⟩ | refine ⟨_, at_map (by assumption), ?_⟩ | (refine (?_ : _ ≤ 140737488355328); simp [rowsLen] <;> omega) | (refine (?_ : _ ≤ 9223372036854775807); simp [rowsLen] <;> omega) | (refine (?_ : _ = rowsLen _); simp [rowsLen] <;> omega) | refine eqv_to _ (app_row rfl) (eqv_to _ app_len ?_) | refine eqv_to _ (app_first rfl) (eqv_to 1 rfl ?_) | refine idx_sl (at_map (by assumption)) (by omega) ?_ | refine idx_ms _ (by first | rfl | assumption) (by first | assumption | omega) ?_ | fail)
    exact ⟨ALe.refl⟩
theorem c_ordered (l : List Sess) (hl : l.length ≤ 1000000000) (hs0 : ∀ s ∈ l, setP s.time.weeks 20) : PCall Tryd.prog 35 [.pv (encSess l)] (fun r => r = .pv (encSess (ordV l))) := (c_ordered0 l hl hs0).weak fun r k => ⟨_, k.le, rfl⟩
/-- Whether sessions meet does not hang on their order. -/
theorem apart_ord {l : List Sess} : apartQ meetP34 (ordV l) ↔ apartQ meetP34 l := ⟨apart_perm (fun a b => meet_comm.1) ord_perm, apart_perm (fun a b => meet_comm.1) ord_perm.symm⟩
theorem c_rnorm0 (l : List Sess) (w : Int) (hl : l.length ≤ 1000000000) : PCall Tryd.prog 14 [.pv (encSess l), vint .i64 w] (fun r => Leq r (.tup [.pv (encSess (normV l w)), vint .i64 (normE l w)])) := by
  refine acall_of tok mixed 77 rfl (fn := Tryd.f14) (c := Tryd.f14.body.getD .skip) (by kernel_rfl) (by kernel_rfl) (by kernel_rfl) rfl 0 rfl ?_
  repeat' (first | refine o1 ?_ | refine o2 ?_ | refine k1 ?_ | refine k2 ?_ | refine k3 ?_ | refine k4 ?_ | refine k6 ?_ | refine k7 ?_ | refine k8 ?_ | refine And.intro ?_ ?_ | exact trivial | refine o3 ?_ | refine o4 ?_ | refine o5 ?_ | refine o6 ?_ | refine k5 ?_ | (intro h; first | exact Bool.noConfusion h | exact nz _ h | exact nl h | (simp at h; done) | (simp at h; first | (exfalso; omega) | skip) | skip) | (change retOk _ _ _ _; refine ret_pure rfl trivial ?_) | exact (rfl : allOne _ = true) | (refine (?_ : (0 : Int) ≤ _); omega) | (refine (?_ : _ ≠ _); omega) | (refine (?_ : srcLen _ = rowsLen _); rfl) | exact Nat.le_of_ble_eq_true rfl | exact (by kernel_rfl : drawOk _ _ = true) | refine eqv_len_map ?_ | refine eqv_size ?_ | refine eqv_put (eqv_ck ?_) | refine eqv_zero ?_ | refine eqv_wrap (by omega) (by omega) ?_ | refine eqv_u64 (by omega) (by omega) ?_ | refine eqv_u8 (by omega) (by omega) ?_ | refine eqv_to _ (set_map rfl rfl) ?_ | refine ⟨_, _, (by first | rfl | assumption), at_map (by assumption), ?_⟩ | refine ⟨_, _, (by first | rfl | assumption), (by assumption), ?_⟩ | refine ⟨_, at_map (by assumption), (by decide), ?_⟩ | refine ⟨_, at_map (by assumption), ?_⟩ | (refine (?_ : _ ≤ 140737488355328); simp [rowsLen] <;> omega) | (refine (?_ : _ ≤ 9223372036854775807); simp [rowsLen] <;> omega) | (refine (?_ : _ = rowsLen _); simp [rowsLen] <;> omega) | refine eqv_to _ (app_row rfl) (eqv_to _ app_len ?_) | refine eqv_to _ (app_first rfl) (eqv_to 1 rfl ?_) | refine idx_sl (at_map (by assumption)) (by omega) ?_ | refine idx_ms _ (by first | rfl | assumption) (by first | assumption | omega) ?_ | fail)
  · obtain ⟨h1, h2⟩ := nf3 (l := l) (w := w) (by omega)
    exact leq_nil h2 h1
  · have hw : 1 ≤ w ∧ w ≤ 20 := by omega
    refine loop_at (fun i : Nat => [(6, vint .i64 i)]) (fun _ => []) (fun i => i ≤ l.length ∧ ∀ j, j < i → sessAt l w j = 0) (fun i => l.length - i) 0 ⟨Nat.zero_le _, fun j hj => by omega⟩ (by repeat' (first | exact trivial | exact rfl | exact ⟨_, rfl, ALe.refl⟩ | refine And.intro ?_ ?_)) (by repeat' (first | exact trivial | exact rfl | exact ⟨_, rfl, ALe.refl⟩ | refine And.intro ?_ ?_)) ?_
    intro i ⟨hi, hall⟩
    rcases Nat.lt_or_ge i l.length with hlt | hge
    · obtain ⟨s, hs⟩ := getE hlt
      have hc := c_single s w
      have hsa := sessAt_at (w := w) hs
      generalize sessE s w = E at *
      repeat' (first | refine o1 ?_ | refine o2 ?_ | refine k1 ?_ | refine k2 ?_ | refine k3 ?_ | refine k4 ?_ | refine k6 ?_ | refine k7 ?_ | refine k8 ?_ | refine And.intro ?_ ?_ | exact trivial | refine o3 ?_ | refine o4 ?_ | refine o5 ?_ | refine o6 ?_ | refine k5 ?_ | (intro h; first | exact Bool.noConfusion h | exact nz _ h | exact nl h | (simp at h; done) | (simp at h; first | (exfalso; omega) | skip) | skip) | (change retOk _ _ _ _; refine ret_pure rfl trivial ?_) | exact (rfl : allOne _ = true) | (refine (?_ : (0 : Int) ≤ _); omega) | (refine (?_ : _ ≠ _); omega) | (refine (?_ : srcLen _ = rowsLen _); rfl) | exact Nat.le_of_ble_eq_true rfl | exact (by kernel_rfl : drawOk _ _ = true) | refine eqv_len_map ?_ | refine eqv_size ?_ | refine eqv_put (eqv_ck ?_) | refine eqv_zero ?_ | refine eqv_wrap (by omega) (by omega) ?_ | refine eqv_u64 (by omega) (by omega) ?_ | refine eqv_u8 (by omega) (by omega) ?_ | refine eqv_to _ (set_map rfl rfl) ?_ | refine ⟨_, _, (by first | rfl | assumption), at_map (by assumption), ?_⟩ | refine ⟨_, _, (by first | rfl | assumption), (by assumption), ?_⟩ | refine ⟨_, at_map (by assumption), (by decide), ?_⟩ | refine ⟨_, at_map (by assumption), ?_⟩ | (refine (?_ : _ ≤ 140737488355328); simp [rowsLen] <;> omega) | (refine (?_ : _ ≤ 9223372036854775807); simp [rowsLen] <;> omega) | (refine (?_ : _ = rowsLen _); simp [rowsLen] <;> omega) | refine eqv_to _ (app_row rfl) (eqv_to _ app_len ?_) | refine eqv_to _ (app_first rfl) (eqv_to 1 rfl ?_) | refine idx_sl (at_map (by assumption)) (by omega) ?_ | refine idx_ms _ (by first | rfl | assumption) (by first | assumption | omega) ?_ | (change vcFun _ _ _ _ _; refine call_eq rfl (by repeat' (first | trivial | refine And.intro ?_ ?_ | (show 0 + _ ≤ List.length _; simp))) ALeL.refl (hc) rfl ?_) | (change vcFunD _ _ _ _ _; refine callD_eq rfl (by repeat' (first | trivial | refine And.intro ?_ ?_ | (show 0 + _ ≤ List.length _; simp))) ALeL.refl (hc) rfl ?_) | fail)
      · obtain ⟨h1, h2⟩ := nf_s hw hall hlt (by rw [hsa]; assumption)
        exact leq_nil h2 (h1.trans hsa)
      · exact ⟨i + 1, ⟨by omega, all_lt_succ hall (by rw [hsa]; assumption)⟩, by omega, back [] rfl rfl trivial (by repeat' (first | exact trivial | exact rfl | exact ⟨_, rfl, ALe.refl⟩ | refine And.intro ?_ ?_))⟩
    · obtain rfl : i = l.length := by omega
      have hs0 := sing_all hall
      have hsi := sing_zero.1 hs0
      have n_d := nf_d (l := l) hw hs0
      have n_2 := nf_2 (l := l) hw hs0
      have n_0 := nf_0 (l := l) hw hs0
      have hjl := joined_len (l := l) (i := l.length)
      have hjo := joined_ok hs0
      have hao := apart_ord (l := joinedV l)
      have hol := ord_len (l := joinedV l)
      rw [List.take_length] at hjl
      have hc1 := c_joined l hl
      have hc2 := c_ordered (joinedV l) (by omega) fun s hs => (sess_ok (hjo s hs)).2.1.1.1
      generalize joinedV l = J at *
      generalize ordV J = O at *
      repeat' (first | ((change vcFun _ _ _ _ _; refine call_frz rfl (by repeat' (first | trivial | refine And.intro ?_ ?_ | (show 0 + _ ≤ List.length _; simp))) ALeL.refl hc1 ?_; rintro _ rfl)) | ((change vcFun _ _ _ _ _; refine call_frz rfl (by repeat' (first | trivial | refine And.intro ?_ ?_ | (show 0 + _ ≤ List.length _; simp))) ALeL.refl hc2 ?_; rintro _ rfl)) | refine o1 ?_ | refine o2 ?_ | refine k1 ?_ | refine k2 ?_ | refine k3 ?_ | refine k4 ?_ | refine k6 ?_ | refine k7 ?_ | refine k8 ?_ | refine And.intro ?_ ?_ | exact trivial | refine o3 ?_ | refine o4 ?_ | refine o5 ?_ | refine o6 ?_ | refine k5 ?_ | (intro h; first | exact Bool.noConfusion h | exact nz _ h | exact nl h | (simp at h; done) | (simp at h; first | (exfalso; omega) | skip) | skip) | (change retOk _ _ _ _; refine ret_pure rfl trivial ?_) | exact (rfl : allOne _ = true) | (refine (?_ : (0 : Int) ≤ _); omega) | (refine (?_ : _ ≠ _); omega) | (refine (?_ : srcLen _ = rowsLen _); rfl) | exact Nat.le_of_ble_eq_true rfl | exact (by kernel_rfl : drawOk _ _ = true) | refine eqv_len_map ?_ | refine eqv_size ?_ | refine eqv_put (eqv_ck ?_) | refine eqv_zero ?_ | refine eqv_wrap (by omega) (by omega) ?_ | refine eqv_u64 (by omega) (by omega) ?_ | refine eqv_u8 (by omega) (by omega) ?_ | refine eqv_to _ (set_map rfl rfl) ?_ | refine ⟨_, _, (by first | rfl | assumption), at_map (by assumption), ?_⟩ | refine ⟨_, _, (by first | rfl | assumption), (by assumption), ?_⟩ | refine ⟨_, at_map (by assumption), (by decide), ?_⟩ | refine ⟨_, at_map (by assumption), ?_⟩ | (refine (?_ : _ ≤ 140737488355328); simp [rowsLen] <;> omega) | (refine (?_ : _ ≤ 9223372036854775807); simp [rowsLen] <;> omega) | (refine (?_ : _ = rowsLen _); simp [rowsLen] <;> omega) | refine eqv_to _ (app_row rfl) (eqv_to _ app_len ?_) | refine eqv_to _ (app_first rfl) (eqv_to 1 rfl ?_) | refine idx_sl (at_map (by assumption)) (by omega) ?_ | refine idx_ms _ (by first | rfl | assumption) (by first | assumption | omega) ?_ | fail)
      refine loop_at (fun i : Nat => [(9, vint .i64 i)]) (fun _ => []) (fun i => i ≤ O.length ∧ ∀ p, p < i → ∀ (q : Nat) (a b : Sess), q < p → O[p]? = some a → O[q]? = some b → ¬ meetP34 a b) (fun i => O.length - i) 0 ⟨Nat.zero_le _, fun j hj => by omega⟩ (by repeat' (first | exact trivial | exact rfl | exact ⟨_, rfl, ALe.refl⟩ | refine And.intro ?_ ?_)) (by repeat' (first | exact trivial | exact rfl | exact ⟨_, rfl, ALe.refl⟩ | refine And.intro ?_ ?_)) ?_
      intro i ⟨hi, hall3⟩
      rcases Nat.lt_or_ge i O.length with hlt | hge2
      · obtain ⟨s, hs⟩ := getE hlt
        repeat' (first | refine o1 ?_ | refine o2 ?_ | refine k1 ?_ | refine k2 ?_ | refine k3 ?_ | refine k4 ?_ | refine k6 ?_ | refine k7 ?_ | refine k8 ?_ | refine And.intro ?_ ?_ | exact trivial | refine o3 ?_ | refine o4 ?_ | refine o5 ?_ | refine o6 ?_ | refine k5 ?_ | (intro h; first | exact Bool.noConfusion h | exact nz _ h | exact nl h | (simp at h; done) | (simp at h; first | (exfalso; omega) | skip) | skip) | (change retOk _ _ _ _; refine ret_pure rfl trivial ?_) | exact (rfl : allOne _ = true) | (refine (?_ : (0 : Int) ≤ _); omega) | (refine (?_ : _ ≠ _); omega) | (refine (?_ : srcLen _ = rowsLen _); rfl) | exact Nat.le_of_ble_eq_true rfl | exact (by kernel_rfl : drawOk _ _ = true) | refine eqv_len_map ?_ | refine eqv_size ?_ | refine eqv_put (eqv_ck ?_) | refine eqv_zero ?_ | refine eqv_wrap (by omega) (by omega) ?_ | refine eqv_u64 (by omega) (by omega) ?_ | refine eqv_u8 (by omega) (by omega) ?_ | refine eqv_to _ (set_map rfl rfl) ?_ | refine ⟨_, _, (by first | rfl | assumption), at_map (by assumption), ?_⟩ | refine ⟨_, _, (by first | rfl | assumption), (by assumption), ?_⟩ | refine ⟨_, at_map (by assumption), (by decide), ?_⟩ | refine ⟨_, at_map (by assumption), ?_⟩ | (refine (?_ : _ ≤ 140737488355328); simp [rowsLen] <;> omega) | (refine (?_ : _ ≤ 9223372036854775807); simp [rowsLen] <;> omega) | (refine (?_ : _ = rowsLen _); simp [rowsLen] <;> omega) | refine eqv_to _ (app_row rfl) (eqv_to _ app_len ?_) | refine eqv_to _ (app_first rfl) (eqv_to 1 rfl ?_) | refine idx_sl (at_map (by assumption)) (by omega) ?_ | refine idx_ms _ (by first | rfl | assumption) (by first | assumption | omega) ?_ | fail)
        refine loop_at (fun k : Nat => [(10, vint .i64 k)]) (fun _ => []) (fun k => k ≤ i ∧ ∀ q, q < k → ∀ b, O[q]? = some b → ¬ meetP34 s b) (fun k => i - k) 0 ⟨Nat.zero_le _, fun j hj => by omega⟩ (by repeat' (first | exact trivial | exact rfl | exact ⟨_, rfl, ALe.refl⟩ | refine And.intro ?_ ?_)) (by repeat' (first | exact trivial | exact rfl | exact ⟨_, rfl, ALe.refl⟩ | refine And.intro ?_ ?_)) ?_
        intro k ⟨hk3, hall4⟩
        rcases Nat.lt_or_ge k i with hlt2 | hge3
        · obtain ⟨t, ht⟩ := getE (show k < O.length by omega)
          repeat' (first | (refine idx_sl (k := i) (at_map hs) (by omega) ?_) | (refine idx_sl (k := k) (at_map ht) (by omega) ?_) | (refine (eqv_rfl ?_ : eqv (bits _ _ _ _) _)) | refine o1 ?_ | refine o2 ?_ | refine k1 ?_ | refine k2 ?_ | refine k3 ?_ | refine k4 ?_ | refine k6 ?_ | refine k7 ?_ | refine k8 ?_ | refine And.intro ?_ ?_ | exact trivial | refine o3 ?_ | refine o4 ?_ | refine o5 ?_ | refine o6 ?_ | refine k5 ?_ | (intro h; first | exact Bool.noConfusion h | exact nz _ h | exact nl h | (simp at h; done) | (simp at h; first | (exfalso; omega) | skip) | skip) | (change retOk _ _ _ _; refine ret_pure rfl trivial ?_) | exact (rfl : allOne _ = true) | (refine (?_ : (0 : Int) ≤ _); omega) | (refine (?_ : _ ≠ _); omega) | (refine (?_ : srcLen _ = rowsLen _); rfl) | exact Nat.le_of_ble_eq_true rfl | exact (by kernel_rfl : drawOk _ _ = true) | refine eqv_len_map ?_ | refine eqv_size ?_ | refine eqv_put (eqv_ck ?_) | refine eqv_zero ?_ | refine eqv_wrap (by omega) (by omega) ?_ | refine eqv_u64 (by omega) (by omega) ?_ | refine eqv_u8 (by omega) (by omega) ?_ | refine eqv_to _ (set_map rfl rfl) ?_ | refine ⟨_, _, (by first | rfl | assumption), at_map (by assumption), ?_⟩ | refine ⟨_, _, (by first | rfl | assumption), (by assumption), ?_⟩ | refine ⟨_, at_map (by assumption), (by decide), ?_⟩ | refine ⟨_, at_map (by assumption), ?_⟩ | (refine (?_ : _ ≤ 140737488355328); simp [rowsLen] <;> omega) | (refine (?_ : _ ≤ 9223372036854775807); simp [rowsLen] <;> omega) | (refine (?_ : _ = rowsLen _); simp [rowsLen] <;> omega) | refine eqv_to _ (app_row rfl) (eqv_to _ app_len ?_) | refine eqv_to _ (app_first rfl) (eqv_to 1 rfl ?_) | refine idx_sl (at_map (by assumption)) (by omega) ?_ | refine idx_ms _ (by first | rfl | assumption) (by first | assumption | omega) ?_ | fail)
          · rename_i h1
            obtain ⟨g1, g2⟩ := n_d fun hap => (hao.2 hap) i k s t hlt2 hs ht ⟨sEq_iff.1 h1, h⟩
            exact leq_nil g2 g1
          · exact ⟨k + 1, ⟨by omega, all_lt_succ hall4 fun b hb => by rw [ht] at hb; cases hb; exact fun c => c.2 h⟩, by omega, back [] rfl rfl trivial (by repeat' (first | exact trivial | exact rfl | exact ⟨_, rfl, ALe.refl⟩ | refine And.intro ?_ ?_))⟩
          · rename_i h1
            exact ⟨k + 1, ⟨by omega, all_lt_succ hall4 fun b hb => by rw [ht] at hb; cases hb; exact fun c => sEq_f.1 h1 c.1⟩, by omega, back [] rfl rfl trivial (by repeat' (first | exact trivial | exact rfl | exact ⟨_, rfl, ALe.refl⟩ | refine And.intro ?_ ?_))⟩
        · repeat' (first | refine o1 ?_ | refine o2 ?_ | refine k1 ?_ | refine k2 ?_ | refine k3 ?_ | refine k4 ?_ | refine k6 ?_ | refine k7 ?_ | refine k8 ?_ | refine And.intro ?_ ?_ | exact trivial | refine o3 ?_ | refine o4 ?_ | refine o5 ?_ | refine o6 ?_ | refine k5 ?_ | (intro h; first | exact Bool.noConfusion h | exact nz _ h | exact nl h | (simp at h; done) | (simp at h; first | (exfalso; omega) | skip) | skip) | (change retOk _ _ _ _; refine ret_pure rfl trivial ?_) | exact (rfl : allOne _ = true) | (refine (?_ : (0 : Int) ≤ _); omega) | (refine (?_ : _ ≠ _); omega) | (refine (?_ : srcLen _ = rowsLen _); rfl) | exact Nat.le_of_ble_eq_true rfl | exact (by kernel_rfl : drawOk _ _ = true) | refine eqv_len_map ?_ | refine eqv_size ?_ | refine eqv_put (eqv_ck ?_) | refine eqv_zero ?_ | refine eqv_wrap (by omega) (by omega) ?_ | refine eqv_u64 (by omega) (by omega) ?_ | refine eqv_u8 (by omega) (by omega) ?_ | refine eqv_to _ (set_map rfl rfl) ?_ | refine ⟨_, _, (by first | rfl | assumption), at_map (by assumption), ?_⟩ | refine ⟨_, _, (by first | rfl | assumption), (by assumption), ?_⟩ | refine ⟨_, at_map (by assumption), (by decide), ?_⟩ | refine ⟨_, at_map (by assumption), ?_⟩ | (refine (?_ : _ ≤ 140737488355328); simp [rowsLen] <;> omega) | (refine (?_ : _ ≤ 9223372036854775807); simp [rowsLen] <;> omega) | (refine (?_ : _ = rowsLen _); simp [rowsLen] <;> omega) | refine eqv_to _ (app_row rfl) (eqv_to _ app_len ?_) | refine eqv_to _ (app_first rfl) (eqv_to 1 rfl ?_) | refine idx_sl (at_map (by assumption)) (by omega) ?_ | refine idx_ms _ (by first | rfl | assumption) (by first | assumption | omega) ?_ | fail)
          exact ⟨i + 1, ⟨by omega, all_lt_succ hall3 fun q a b hq ha hb => by rw [hs] at ha; cases ha; exact hall4 q (by omega) b hb⟩, by omega, back [] rfl rfl trivial (by repeat' (first | exact trivial | exact rfl | exact ⟨_, rfl, ALe.refl⟩ | refine And.intro ?_ ?_))⟩
      · have hap : apartQ meetP34 J := hao.1 fun p q a b hq ha hb => hall3 p (by have := (List.getElem?_eq_some_iff.1 ha).1; omega) q a b hq ha hb
        repeat' (first | refine o1 ?_ | refine o2 ?_ | refine k1 ?_ | refine k2 ?_ | refine k3 ?_ | refine k4 ?_ | refine k6 ?_ | refine k7 ?_ | refine k8 ?_ | refine And.intro ?_ ?_ | exact trivial | refine o3 ?_ | refine o4 ?_ | refine o5 ?_ | refine o6 ?_ | refine k5 ?_ | (intro h; first | exact Bool.noConfusion h | exact nz _ h | exact nl h | (simp at h; done) | (simp at h; first | (exfalso; omega) | skip) | skip) | (change retOk _ _ _ _; refine ret_pure rfl trivial ?_) | exact (rfl : allOne _ = true) | (refine (?_ : (0 : Int) ≤ _); omega) | (refine (?_ : _ ≠ _); omega) | (refine (?_ : srcLen _ = rowsLen _); rfl) | exact Nat.le_of_ble_eq_true rfl | exact (by kernel_rfl : drawOk _ _ = true) | refine eqv_len_map ?_ | refine eqv_size ?_ | refine eqv_put (eqv_ck ?_) | refine eqv_zero ?_ | refine eqv_wrap (by omega) (by omega) ?_ | refine eqv_u64 (by omega) (by omega) ?_ | refine eqv_u8 (by omega) (by omega) ?_ | refine eqv_to _ (set_map rfl rfl) ?_ | refine ⟨_, _, (by first | rfl | assumption), at_map (by assumption), ?_⟩ | refine ⟨_, _, (by first | rfl | assumption), (by assumption), ?_⟩ | refine ⟨_, at_map (by assumption), (by decide), ?_⟩ | refine ⟨_, at_map (by assumption), ?_⟩ | (refine (?_ : _ ≤ 140737488355328); simp [rowsLen] <;> omega) | (refine (?_ : _ ≤ 9223372036854775807); simp [rowsLen] <;> omega) | (refine (?_ : _ = rowsLen _); simp [rowsLen] <;> omega) | refine eqv_to _ (app_row rfl) (eqv_to _ app_len ?_) | refine eqv_to _ (app_first rfl) (eqv_to 1 rfl ?_) | refine idx_sl (at_map (by assumption)) (by omega) ?_ | refine idx_ms _ (by first | rfl | assumption) (by first | assumption | omega) ?_ | fail)
        · obtain ⟨g1, g2⟩ := n_2 hap (by omega)
          exact leq_nil g2 g1
        · obtain ⟨g1, g2⟩ := n_0 hap (by omega)
          rw [g1, g2]
          exact ⟨ALe.refl⟩
  · obtain ⟨h1, h2⟩ := nf3 (l := l) (w := w) (by omega)
    exact leq_nil h2 h1
theorem c_rnorm (l : List Sess) (w : Int) (hl : l.length ≤ 1000000000) : PCall Tryd.prog 14 [.pv (encSess l), vint .i64 w] (fun r => r = .tup [.pv (encSess (normV l w)), vint .i64 (normE l w)]) := (c_rnorm0 l w hl).weak fun r k => ⟨_, k.le, rfl⟩
end Go.Proofs.YtbcacaodfpgflaaDoor.Cw

/-
  Plain laws of chapter 34: where a class is in a week; spliced lists.
-/
namespace Go.Proofs.YtbcacaodfpgflaaDoor.Cw
open Go Go.Cw Go.Proofs
set_option linter.unusedVariables false

def setW (s : Sess) (w : Int) : Sess := ⟨s.cls, ⟨w, s.time.day, s.time.start, s.time.len⟩, s.room⟩
noncomputable def masked (f : Int → Int) (l : List Sess) : List Sess := l.flatMap fun s => if f s.time.weeks = 0 then [] else [setW s (f s.time.weeks)]
def firstM (k : Int) : Int := 2 ^ (k - 1).toNat - 1
def andF (k x : Int) : Int := bits .and .i64 x (firstM k)
def notF (k x : Int) : Int := bits .andNot .i64 x (firstM k)
noncomputable def splL (a b : List Sess) (k : Int) : List Sess := masked (andF k) a ++ masked (notF k) b
noncomputable def splE (a b : List Sess) (w k : Int) : Int := if validE a w ≠ 0 then validE a w else if validE b w ≠ 0 then validE b w else if k < 1 ∨ w + 1 < k then 3 else normE (splL a b k) w
noncomputable def splV (a b : List Sess) (w k : Int) : List Sess := if splE a b w k = 0 then normV (splL a b k) w else []

theorem first_nat {k w : Int} (h : 1 ≤ k ∧ k ≤ w + 1) (hw : w ≤ 20) : ∃ j : Nat, k = (j : Int) + 1 ∧ j ≤ 20 ∧ firstM k = ((2 ^ j - 1 : Nat) : Int) := by
  obtain ⟨j, hj⟩ := Int.eq_ofNat_of_zero_le (show 0 ≤ k - 1 by omega)
  refine ⟨j, by omega, by omega, ?_⟩
  unfold firstM
  rw [hj, Int.toNat_natCast, Int.natCast_sub (Nat.two_pow_pos j)]
  simp
theorem first_lt {j : Nat} (h : j ≤ 20) : 2 ^ j - 1 < 2 ^ 62 := by
  have : (2 : Nat) ^ j ≤ 2 ^ 20 := Nat.pow_le_pow_right (by decide) h
  have : (2 : Nat) ^ 20 < 2 ^ 62 := by decide
  omega
theorem andNot_nat (a b : Nat) (ha : a < 2 ^ 62) (hb : b < 2 ^ 62) : ∃ c : Nat, bits .andNot .i64 (a : Int) (b : Int) = (c : Int) ∧ c < 2 ^ 62 ∧ ∀ i, c.testBit i = (a.testBit i && !b.testBit i) := by
  have e64 : IntKind.i64.bits = 64 := rfl
  have h62 : (2 : Nat) ^ 62 < 2 ^ 64 := by decide
  let c := ((BitVec.ofNat 64 a) &&& ~~~ (BitVec.ofNat 64 b)).toNat
  have hc : ∀ i, c.testBit i = (a.testBit i && !b.testBit i) := fun i => by
    show ((BitVec.ofNat 64 a) &&& ~~~ (BitVec.ofNat 64 b)).toNat.testBit i = _
    rw [BitVec.testBit_toNat]
    by_cases hi : i < 64
    · rw [BitVec.getLsbD_and, BitVec.getLsbD_not, BitVec.getLsbD_ofNat, BitVec.getLsbD_ofNat]; simp only [hi, decide_true, Bool.true_and]
    · rw [BitVec.getLsbD_of_ge _ _ (by omega)]
      have : a.testBit i = false := Nat.testBit_lt_two_pow (Nat.lt_of_lt_of_le ha (Nat.pow_le_pow_right (by decide) (by omega)))
      rw [this]; rfl
  have hlt : c < 2 ^ 62 := by
    refine Nat.lt_pow_two_of_testBit _ fun i hi => ?_
    rw [hc, Nat.testBit_lt_two_pow (Nat.lt_of_lt_of_le ha (Nat.pow_le_pow_right (by decide) hi))]; rfl
  refine ⟨c, ?_, hlt, hc⟩
  unfold bits
  have e1 : BitVec.ofInt IntKind.i64.bits (a : Int) = BitVec.ofNat 64 a := BitVec.ofInt_natCast ..
  have e2 : BitVec.ofInt IntKind.i64.bits (b : Int) = BitVec.ofNat 64 b := BitVec.ofInt_natCast ..
  rw [e1, e2]
  exact wrap62 _ (Int.natCast_nonneg _) (by exact_mod_cast hlt)
/-- The mask of the weeks before one, or from it on: what it does to a set. -/
def maskAt (f : Int → Int) (p : Nat → Bool) : Prop := ∀ n : Nat, n < 2 ^ 20 → ∃ c : Nat, f (n : Int) = (c : Int) ∧ c ≤ n ∧ ∀ i, c.testBit i = (n.testBit i && p i)
theorem le_of_sub {c n : Nat} (h : ∀ i, c.testBit i = true → n.testBit i = true) : c ≤ n := by
  have e : c &&& n = c := Nat.eq_of_testBit_eq fun i => by
    rw [Nat.testBit_and]
    cases h1 : c.testBit i
    · rfl
    · rw [h i h1]; rfl
  rw [← e]; exact Nat.and_le_right
theorem mask_and {k : Int} {j : Nat} (hj : j ≤ 20) (h : firstM k = ((2 ^ j - 1 : Nat) : Int)) : maskAt (andF k) fun i => decide (i < j) := fun n hn => by
  have h20 : (2 : Nat) ^ 20 < 2 ^ 62 := by decide
  have e : andF k (n : Int) = ((n &&& (2 ^ j - 1) : Nat) : Int) := by
    unfold andF; rw [h]; exact (bits_natI n _ (by omega) (first_lt hj)).1
  exact ⟨_, e, Nat.and_le_left, fun i => by rw [Nat.testBit_and, Nat.testBit_two_pow_sub_one]⟩
theorem mask_not {k : Int} {j : Nat} (hj : j ≤ 20) (h : firstM k = ((2 ^ j - 1 : Nat) : Int)) : maskAt (notF k) fun i => !decide (i < j) := fun n hn => by
  have h20 : (2 : Nat) ^ 20 < 2 ^ 62 := by decide
  obtain ⟨c, h1, h2, h3⟩ := andNot_nat n (2 ^ j - 1) (by omega) (first_lt hj)
  have h4 : ∀ i, c.testBit i = (n.testBit i && !decide (i < j)) := fun i => by rw [h3, Nat.testBit_two_pow_sub_one]
  refine ⟨c, by unfold notF; rw [h]; exact h1, le_of_sub fun i hi => ?_, h4⟩
  rw [h4, Bool.and_eq_true] at hi; exact hi.1

/-- A session of a class in a week. -/
def hasW (l : List Sess) (c : Str) (i : Nat) (u : Sess) : Prop := ∃ s ∈ l, s.cls = c ∧ bitB s.time.weeks i = true ∧ alikeP s u
theorem masked_has {f : Int → Int} {p : Nat → Bool} (hf : maskAt f p) {l : List Sess} {w : Int} (hl : ∀ s ∈ l, sessE s w = 0) {c : Str} {i : Nat} {u : Sess} : hasW (masked f l) c i u ↔ p i = true ∧ hasW l c i u := by
  have h20 : (2 : Nat) ^ 20 < 2 ^ 62 := by decide
  have key : ∀ s ∈ l, ∃ d : Nat, f s.time.weeks = (d : Int) ∧ bitB (d : Int) i = (bitB s.time.weeks i && p i) := fun s hs => by
    obtain ⟨n, e, n0, -, n2, n3⟩ := set_nat (sess_ok (hl s hs)).2.1.2
    obtain ⟨d, h1, h2, h3⟩ := hf n n2
    refine ⟨d, by rw [e]; exact h1, ?_⟩
    rw [e, bit_nat (by omega), bit_nat n3]; exact h3 i
  constructor
  · rintro ⟨t, ht, h1, h2, h3⟩
    obtain ⟨s, hs, ht⟩ := List.mem_flatMap.1 ht
    obtain ⟨d, e1, e2⟩ := key s hs
    split at ht
    · cases ht
    · simp at ht; subst ht
      rw [show (setW s (f s.time.weeks)).time.weeks = f s.time.weeks from rfl, e1, e2, Bool.and_eq_true] at h2
      exact ⟨h2.2, s, hs, h1, h2.1, h3⟩
  · rintro ⟨hp, s, hs, h1, h2, h3⟩
    obtain ⟨d, e1, e2⟩ := key s hs
    rw [h2, hp] at e2
    refine ⟨setW s (f s.time.weeks), List.mem_flatMap.2 ⟨s, hs, ?_⟩, h1, by rw [show (setW s (f s.time.weeks)).time.weeks = f s.time.weeks from rfl, e1, e2]; rfl, h3⟩
    rw [if_neg]
    · simp
    · intro e
      rw [e] at e1
      have : d = 0 := by omega
      subst this
      rw [bit_nat (by decide)] at e2
      simp at e2
theorem or_bit {s t : Sess} {w : Int} (hs : sessE s w = 0) (ht : sessE t w = 0) {i : Nat} : bitB (orW t s).time.weeks i = (bitB t.time.weeks i || bitB s.time.weeks i) := by
  obtain ⟨n, e1, -, -, -, n3⟩ := set_nat (sess_ok hs).2.1.2
  obtain ⟨m, e2, -, -, -, m3⟩ := set_nat (sess_ok ht).2.1.2
  show bitB (bits .or .i64 t.time.weeks s.time.weeks) i = _
  rw [e1, e2, (bits_natI m n m3 n3).2, bit_nat (Nat.or_lt_two_pow m3 n3), bit_nat m3, bit_nat n3, Nat.testBit_or]
theorem join_has {w : Int} {c : Str} {i : Nat} {u : Sess} : ∀ {out : List Sess} {s : Sess}, (∀ t ∈ out, sessE t w = 0) → sessE s w = 0 → (hasW (joinOne out s) c i u ↔ hasW out c i u ∨ (s.cls = c ∧ bitB s.time.weeks i = true ∧ alikeP s u))
  | [], s, _, _ => by
    unfold joinOne hasW; simp
  | t :: l, s, h, hs => by
    have ht := h t (by simp)
    unfold joinOne
    split
    · rename_i ha
      have ha : alikeP t s := by simpa using ha
      have hb := or_bit hs ht (i := i)
      unfold hasW
      simp only [List.mem_cons, exists_eq_or_imp]
      rw [hb, Bool.or_eq_true]
      constructor
      · rintro (⟨h1, h2, h3⟩ | h1)
        · rcases h2 with h2 | h2
          · exact .inl (.inl ⟨h1, h2, h3⟩)
          · exact .inr ⟨ha.1.symm.trans h1, h2, alike_trans (alike_comm.1 ha) h3⟩
        · exact .inl (.inr h1)
      · rintro ((⟨h1, h2, h3⟩ | h1) | ⟨h1, h2, h3⟩)
        · exact .inl ⟨h1, .inl h2, h3⟩
        · exact .inr h1
        · exact .inl ⟨ha.1.trans h1, .inr h2, alike_trans ha h3⟩
    · have ih := join_has (c := c) (i := i) (u := u) (out := l) (fun t ht => h t (by simp [ht])) hs
      unfold hasW at ih ⊢
      simp only [List.mem_cons, exists_eq_or_imp]
      rw [ih]
      exact or_assoc.symm
theorem joined_has0 {w : Int} {c : Str} {i : Nat} {u : Sess} : ∀ {l out : List Sess}, (∀ t ∈ out, sessE t w = 0) → (∀ t ∈ l, sessE t w = 0) → (hasW (l.foldl joinOne out) c i u ↔ hasW out c i u ∨ hasW l c i u)
  | [], out, _, _ => by simp [hasW]
  | s :: l, out, h, hl => by
    rw [List.foldl_cons, joined_has0 (join_all (fun t s ht hs => or_ok hs ht) h (hl s (by simp))) (fun t ht => hl t (by simp [ht])), join_has h (hl s (by simp))]
    rw [or_assoc]
    refine or_congr Iff.rfl ?_
    unfold hasW
    simp only [List.mem_cons, exists_eq_or_imp]
theorem joined_has {w : Int} {c : Str} {i : Nat} {u : Sess} {l : List Sess} (hl : ∀ t ∈ l, sessE t w = 0) : hasW (joinedV l) c i u ↔ hasW l c i u := by
  unfold joinedV
  rw [joined_has0 (fun t ht => by cases ht) hl]
  simp [hasW]
theorem has_perm {c : Str} {i : Nat} {u : Sess} {l m : List Sess} (h : l.Perm m) : hasW l c i u ↔ hasW m c i u := by
  unfold hasW
  constructor
  · rintro ⟨s, h1, h2⟩; exact ⟨s, h.subset h1, h2⟩
  · rintro ⟨s, h1, h2⟩; exact ⟨s, h.symm.subset h1, h2⟩
theorem has_one {l : List Sess} {w : Int} (hl : ∀ s ∈ l, sessE s w = 0) (hm : apartQ meetP34 l) {c : Str} {i : Nat} {s t : Sess} (hs : s ∈ l) (ht : t ∈ l) (h1 : s.cls = c) (h2 : bitB s.time.weeks i = true) (h3 : t.cls = c) (h4 : bitB t.time.weeks i = true) : s = t := by
  obtain ⟨a, ha⟩ := List.getElem?_of_mem hs
  obtain ⟨b, hb⟩ := List.getElem?_of_mem ht
  obtain ⟨n, e1, -, -, -, n3⟩ := set_nat (sess_ok (hl s hs)).2.1.2
  obtain ⟨m, e2, -, -, -, m3⟩ := set_nat (sess_ok (hl t ht)).2.1.2
  have hmt : meetP34 s t := ⟨h1.trans h3.symm, by
    rw [e1, bit_nat n3] at h2
    rw [e2, bit_nat m3] at h4
    rw [e1, e2]
    exact (meet_bit n3 m3).2 ⟨i, h2, h4⟩⟩
  rcases Nat.lt_trichotomy a b with h | h | h
  · exact absurd (meet_comm.1 hmt) (hm b a _ _ h hb ha)
  · subst h; rw [ha] at hb; injection hb
  · exact absurd hmt (hm a b _ _ h ha hb)
/-- At, of two lists in which the same holds. -/
def sameO : Option Sess → Option Sess → Prop
  | none, none => True
  | some a, some b => alikeP a b
  | _, _ => False
theorem at_same {l m : List Sess} {w w' : Int} (hl : ∀ s ∈ l, sessE s w = 0) (hlm : apartQ meetP34 l) (hm : ∀ s ∈ m, sessE s w' = 0) (hmm : apartQ meetP34 m) {c : Str} {k : Int} (h : ∀ u, hasW l c (k - 1).toNat u ↔ hasW m c (k - 1).toNat u) : sameO (atO l c k) (atO m c k) := by
  unfold atO
  split
  · cases h1 : l.find? fun s => pB (s.cls = c ∧ bitB s.time.weeks (k - 1).toNat = true) with
    | none =>
      cases h2 : m.find? fun s => pB (s.cls = c ∧ bitB s.time.weeks (k - 1).toNat = true) with
      | none => trivial
      | some t =>
        have h3 := List.find?_some h2
        have h3 : t.cls = c ∧ bitB t.time.weeks (k - 1).toNat = true := by simpa using h3
        obtain ⟨s, hs, q1, q2, -⟩ := (h t).2 ⟨t, List.mem_of_find?_eq_some h2, h3.1, h3.2, ⟨rfl, rfl, rfl, rfl, rfl⟩⟩
        have := List.find?_eq_none.1 h1 s hs
        exact absurd (pB_t (show s.cls = c ∧ bitB s.time.weeks (k - 1).toNat = true from ⟨q1, q2⟩)) (by simpa using this)
    | some s =>
      have h3 := List.find?_some h1
      have h3 : s.cls = c ∧ bitB s.time.weeks (k - 1).toNat = true := by simpa using h3
      obtain ⟨t, ht, q1, q2, q3⟩ := (h s).1 ⟨s, List.mem_of_find?_eq_some h1, h3.1, h3.2, ⟨rfl, rfl, rfl, rfl, rfl⟩⟩
      cases h2 : m.find? fun s => pB (s.cls = c ∧ bitB s.time.weeks (k - 1).toNat = true) with
      | none =>
        have := List.find?_eq_none.1 h2 t ht
        exact absurd (pB_t (show t.cls = c ∧ bitB t.time.weeks (k - 1).toNat = true from ⟨q1, q2⟩)) (by simpa using this)
      | some t' =>
        have h4 := List.find?_some h2
        have h4 : t'.cls = c ∧ bitB t'.time.weeks (k - 1).toNat = true := by simpa using h4
        obtain rfl := has_one hm hmm ht (List.mem_of_find?_eq_some h2) q1 q2 h4.1 h4.2
        exact alike_comm.1 q3
  · trivial
theorem valid_meet {l : List Sess} {w : Int} (h : validE l w = 0) : apartQ meetP34 l := fun i k a b hk ha hb hm => (valid_parts h).2.2.2.2 i k a b hk ha hb (.inl hm)
theorem masked_ok {f : Int → Int} {p : Nat → Bool} (hf : maskAt f p) {l : List Sess} {w : Int} (hl : ∀ s ∈ l, sessE s w = 0) : ∀ s ∈ masked f l, sessE s w = 0 := fun t ht => by
  obtain ⟨s, hs, ht⟩ := List.mem_flatMap.1 ht
  obtain ⟨h1, ⟨h2, h3⟩, h4⟩ := sess_ok (hl s hs)
  obtain ⟨n, e, n0, n1, n2, n3⟩ := set_nat h3
  obtain ⟨d, g1, g2, g3⟩ := hf n n2
  split at ht
  · cases ht
  · rename_i hne
    simp at ht; subst ht
    rw [← e] at g1
    have hd : d ≠ 0 := fun k => hne (by rw [g1, k]; rfl)
    have hw : ∀ w', setP s.time.weeks w' → setP (f s.time.weeks) w' := fun w' h => by
      rw [g1]
      have h4 := h.2.2.2
      rw [e] at h4
      exact ⟨h.1, h.2.1, by omega, by omega⟩
    exact sess_of h1 ⟨⟨hw _ h2.1, h2.2⟩, hw _ h3⟩ h4
/-- A spliced list has, in each week, the sessions of the one list before the week, and those of the other one from it on. -/
theorem spl_held {a b : List Sess} {w k : Int} (h : splE a b w k = 0) {c : Str} {i : Int} (hi : 1 ≤ i ∧ i ≤ w) : sameO (atO (splV a b w k) c i) (atO (if i < k then a else b) c i) := by
  unfold splV
  rw [if_pos h]
  unfold splE at h
  split at h
  · contradiction
  · rename_i ha
    split at h
    · contradiction
    · rename_i hb
      split at h
      · cases h
      · rename_i hk
        have ha : validE a w = 0 := by omega
        have hb : validE b w = 0 := by omega
        obtain ⟨hw, -, sa, -, -⟩ := valid_parts ha
        obtain ⟨-, -, sb, -, -⟩ := valid_parts hb
        obtain ⟨j, rfl, hj, hf⟩ := first_nat (show 1 ≤ k ∧ k ≤ w + 1 by omega) hw.2
        obtain ⟨-, -, sn, -, -⟩ := valid_parts (norm_valid h)
        refine at_same sn (valid_meet (norm_valid h)) (w' := w) ?_ ?_ fun u => ?_
        · split
          · exact sa
          · exact sb
        · split
          · exact valid_meet ha
          · exact valid_meet hb
        · have hs : ∀ s ∈ splL a b ((j : Int) + 1), sessE s w = 0 := fun s hs => by
            rcases List.mem_append.1 hs with hs | hs
            · exact masked_ok (mask_and hj hf) sa s hs
            · exact masked_ok (mask_not hj hf) sb s hs
          unfold normV
          rw [if_pos h, has_perm ord_perm, joined_has hs]
          have e : hasW (splL a b ((j : Int) + 1)) c (i - 1).toNat u ↔ hasW (masked (andF ((j : Int) + 1)) a) c (i - 1).toNat u ∨ hasW (masked (notF ((j : Int) + 1)) b) c (i - 1).toNat u := by
            unfold hasW splL
            simp only [List.mem_append, or_and_right, exists_or]
          rw [e, masked_has (mask_and hj hf) sa, masked_has (mask_not hj hf) sb]
          by_cases hlt : i < (j : Int) + 1
          · rw [if_pos hlt]
            have hq : (i - 1).toNat < j := by omega
            generalize (i - 1).toNat = q at hq ⊢
            simp [hq]
          · rw [if_neg hlt]
            have hq : ¬ (i - 1).toNat < j := by omega
            generalize (i - 1).toNat = q at hq ⊢
            simp [hq]
theorem spl_valid {a b : List Sess} {w k : Int} (h : splE a b w k = 0) : validE (splV a b w k) w = 0 := by
  unfold splV
  rw [if_pos h]
  unfold splE at h
  split at h
  · contradiction
  · split at h
    · contradiction
    · split at h
      · cases h
      · exact norm_valid h
end Go.Proofs.YtbcacaodfpgflaaDoor.Cw

/-
  Contracts: where a class is in a week; equal lists; spliced lists.
-/
namespace Go.Proofs.YtbcacaodfpgflaaDoor.Cw
open Go Go.Cw Go.Proofs
set_option linter.unusedVariables false
set_option maxRecDepth 100000
set_option maxHeartbeats 8000000

def atV : Option Sess → AV
  | some s => .tup [ag s.row, vbool true]
  | none => .tup [ag zeroS.row, vbool false]
theorem shr_w (x : Int) {w : Int} (h : 1 ≤ w ∧ w ≤ 20) : x.fdiv (2 ^ min (w - 1).toNat IntKind.i64.bits) = x.fdiv (2 ^ (w - 1).toNat) := by
  have : min (w - 1).toNat IntKind.i64.bits = (w - 1).toNat := by
    have : IntKind.i64.bits = 64 := rfl
    rw [this]; omega
  rw [this]
noncomputable def isAt (c : Str) (w : Int) (s : Sess) : Bool := pB (s.cls = c ∧ bitB s.time.weeks (w - 1).toNat = true)
theorem isAt_t {c : Str} {w : Int} {n : Nat} {s : Sess} (hn : (w - 1).toNat = n) (h1 : sEq s.cls c = true) (h2 : bits .and .i64 (s.time.weeks.fdiv (2 ^ n)) 1 = 1) : isAt c w s = true := pB_t ⟨sEq_iff.1 h1, by unfold bitB; rw [hn, h2]; rfl⟩
theorem isAt_f1 {c : Str} {w : Int} {s : Sess} (h1 : sEq s.cls c = false) : isAt c w s = false := pB_f fun k => sEq_f.1 h1 k.1
theorem isAt_f2 {c : Str} {w : Int} {n : Nat} {s : Sess} (hn : (w - 1).toNat = n) (h2 : ¬ bits .and .i64 (s.time.weeks.fdiv (2 ^ n)) 1 = 1) : isAt c w s = false := pB_f fun k => h2 (by have := k.2; unfold bitB at this; rw [hn] at this; simpa using this)
theorem at_none {l : List Sess} {c : Str} {w : Int} (h : ¬ (1 ≤ w ∧ w ≤ 20)) : atO l c w = none := if_neg h
theorem at_no {l : List Sess} {c : Str} {w : Int} (h : 1 ≤ w ∧ w ≤ 20) (hall : ∀ j, j < l.length → ∀ y, l[j]? = some y → isAt c w y = false) : atO l c w = none := by
  unfold atO; rw [if_pos h]
  refine List.find?_eq_none.2 fun s hs => ?_
  obtain ⟨j, hj⟩ := List.getElem?_of_mem hs
  have := hall j (List.getElem?_eq_some_iff.1 hj).1 s hj
  unfold isAt at this
  rw [this]; simp
theorem at_yes {l : List Sess} {c : Str} {w : Int} (h : 1 ≤ w ∧ w ≤ 20) {i : Nat} {s : Sess} (hall : ∀ j, j < i → ∀ y, l[j]? = some y → isAt c w y = false) (hs : l[i]? = some s) (hp : isAt c w s = true) : atO l c w = some s := by
  unfold atO; rw [if_pos h]
  refine List.find?_eq_some_iff_getElem.2 ⟨hp, i, (List.getElem?_eq_some_iff.1 hs).1, (List.getElem?_eq_some_iff.1 hs).2, fun j hj => ?_⟩
  have := hall j hj _ (List.getElem?_eq_getElem (by have := (List.getElem?_eq_some_iff.1 hs).1; omega))
  unfold isAt at this
  rw [this]; rfl
theorem c_at (l : List Sess) (c : Str) (w : Int) (hl : l.length ≤ 140000000000) : PCall Tryd.prog 17 [.pv (encSess l), .pv (es c), vint .i64 w] (fun r => r = atV (atO l c w)) := by
  by_cases hw : 1 ≤ w ∧ w ≤ 20
  · obtain ⟨n, hn⟩ : ∃ n, (w - 1).toNat = n := ⟨_, rfl⟩
    have e2 : ∀ x : Int, x.fdiv (2 ^ min (w - 1).toNat IntKind.i64.bits) = x.fdiv (2 ^ n) := fun x => by rw [← hn]; exact shr_w x hw
    refine acall_of tok mixed 40 rfl (fn := Tryd.f17) (c := Tryd.f17.body.getD .skip) (by kernel_rfl) (by kernel_rfl) (by kernel_rfl) rfl 0 rfl ?_
    repeat' (first | refine o1 ?_ | refine o2 ?_ | refine k1 ?_ | refine k2 ?_ | refine k3 ?_ | refine k4 ?_ | refine k6 ?_ | refine k7 ?_ | refine k8 ?_ | refine And.intro ?_ ?_ | exact trivial | refine o3 ?_ | refine o4 ?_ | refine o5 ?_ | refine o6 ?_ | refine k5 ?_ | (intro h; first | exact Bool.noConfusion h | exact nz _ h | exact nl h | (simp at h; done) | (simp at h; first | (exfalso; omega) | skip) | skip) | (change retOk _ _ _ _; refine ret_pure rfl trivial ?_) | exact (rfl : allOne _ = true) | (refine (?_ : (0 : Int) ≤ _); omega) | (refine (?_ : _ ≠ _); omega) | (refine (?_ : srcLen _ = rowsLen _); rfl) | exact Nat.le_of_ble_eq_true rfl | exact (by kernel_rfl : drawOk _ _ = true) | refine eqv_len_map ?_ | refine eqv_size ?_ | refine eqv_put (eqv_ck ?_) | refine eqv_zero ?_ | refine eqv_wrap (by omega) (by omega) ?_ | refine eqv_u64 (by omega) (by omega) ?_ | refine eqv_u8 (by omega) (by omega) ?_ | refine eqv_to _ (set_map rfl rfl) ?_ | refine ⟨_, _, (by first | rfl | assumption), at_map (by assumption), ?_⟩ | refine ⟨_, _, (by first | rfl | assumption), (by assumption), ?_⟩ | refine ⟨_, at_map (by assumption), (by decide), ?_⟩ | refine ⟨_, at_map (by assumption), ?_⟩ | (refine (?_ : _ ≤ 140737488355328); simp [rowsLen] <;> omega) | (refine (?_ : _ ≤ 9223372036854775807); simp [rowsLen] <;> omega) | (refine (?_ : _ = rowsLen _); simp [rowsLen] <;> omega) | refine eqv_to _ (app_row rfl) (eqv_to _ app_len ?_) | refine eqv_to _ (app_first rfl) (eqv_to 1 rfl ?_) | refine idx_sl (at_map (by assumption)) (by omega) ?_ | refine idx_ms _ (by first | rfl | assumption) (by first | assumption | omega) ?_ | fail)
    all_goals try (exfalso; omega)
    refine loop_at (fun i : Nat => [(19, vint .i64 i)]) (fun _ => []) (fun i => i ≤ l.length ∧ ∀ j, j < i → ∀ y, l[j]? = some y → isAt c w y = false) (fun i => l.length - i) 0 ⟨Nat.zero_le _, fun j hj => by omega⟩ (by repeat' (first | exact trivial | exact rfl | exact ⟨_, rfl, ALe.refl⟩ | refine And.intro ?_ ?_)) (by repeat' (first | exact trivial | exact rfl | exact ⟨_, rfl, ALe.refl⟩ | refine And.intro ?_ ?_)) ?_
    intro i ⟨hi, hall⟩
    rcases Nat.lt_or_ge i l.length with hlt | hge
    · obtain ⟨s, hs⟩ := getE hlt
      repeat' (first | (refine eqv_to _ (e2 s.time.weeks) ?_) | (refine (eqv_rfl ?_ : eqv (bits _ _ _ _) _)) | refine o1 ?_ | refine o2 ?_ | refine k1 ?_ | refine k2 ?_ | refine k3 ?_ | refine k4 ?_ | refine k6 ?_ | refine k7 ?_ | refine k8 ?_ | refine And.intro ?_ ?_ | exact trivial | refine o3 ?_ | refine o4 ?_ | refine o5 ?_ | refine o6 ?_ | refine k5 ?_ | (intro h; first | exact Bool.noConfusion h | exact nz _ h | exact nl h | (simp at h; done) | (simp at h; first | (exfalso; omega) | skip) | skip) | (change retOk _ _ _ _; refine ret_pure rfl trivial ?_) | exact (rfl : allOne _ = true) | (refine (?_ : (0 : Int) ≤ _); omega) | (refine (?_ : _ ≠ _); omega) | (refine (?_ : srcLen _ = rowsLen _); rfl) | exact Nat.le_of_ble_eq_true rfl | exact (by kernel_rfl : drawOk _ _ = true) | refine eqv_len_map ?_ | refine eqv_size ?_ | refine eqv_put (eqv_ck ?_) | refine eqv_zero ?_ | refine eqv_wrap (by omega) (by omega) ?_ | refine eqv_u64 (by omega) (by omega) ?_ | refine eqv_u8 (by omega) (by omega) ?_ | refine eqv_to _ (set_map rfl rfl) ?_ | refine ⟨_, _, (by first | rfl | assumption), at_map (by assumption), ?_⟩ | refine ⟨_, _, (by first | rfl | assumption), (by assumption), ?_⟩ | refine ⟨_, at_map (by assumption), (by decide), ?_⟩ | refine ⟨_, at_map (by assumption), ?_⟩ | (refine (?_ : _ ≤ 140737488355328); simp [rowsLen] <;> omega) | (refine (?_ : _ ≤ 9223372036854775807); simp [rowsLen] <;> omega) | (refine (?_ : _ = rowsLen _); simp [rowsLen] <;> omega) | refine eqv_to _ (app_row rfl) (eqv_to _ app_len ?_) | refine eqv_to _ (app_first rfl) (eqv_to 1 rfl ?_) | refine idx_sl (at_map (by assumption)) (by omega) ?_ | refine idx_ms _ (by first | rfl | assumption) (by first | assumption | omega) ?_ | fail)
      · change retOk _ _ _ _; refine ret_pure rfl (by repeat' (first | exact True.intro | refine And.intro ?_ ?_)) ?_
        rw [at_yes hw hall hs (isAt_t hn (by assumption) h)]; rfl
      · exact ⟨i + 1, ⟨by omega, all_lt_succ hall fun y hy => by rw [hs] at hy; cases hy; exact isAt_f2 hn h⟩, by omega, back [0] rfl rfl ⟨rfl, trivial⟩ (by repeat' (first | exact trivial | exact rfl | exact ⟨_, rfl, ALe.refl⟩ | refine And.intro ?_ ?_))⟩
      · rename_i h1
        exact ⟨i + 1, ⟨by omega, all_lt_succ hall fun y hy => by rw [hs] at hy; cases hy; exact isAt_f1 h1⟩, by omega, back [0] rfl rfl ⟨rfl, trivial⟩ (by repeat' (first | exact trivial | exact rfl | exact ⟨_, rfl, ALe.refl⟩ | refine And.intro ?_ ?_))⟩
    · rw [at_no hw fun j hj => hall j (by omega)]
      repeat' (first | refine o1 ?_ | refine o2 ?_ | refine k1 ?_ | refine k2 ?_ | refine k3 ?_ | refine k4 ?_ | refine k6 ?_ | refine k7 ?_ | refine k8 ?_ | refine And.intro ?_ ?_ | exact trivial | refine o3 ?_ | refine o4 ?_ | refine o5 ?_ | refine o6 ?_ | refine k5 ?_ | (intro h; first | exact Bool.noConfusion h | exact nz _ h | exact nl h | (simp at h; done) | (simp at h; first | (exfalso; omega) | skip) | skip) | (change retOk _ _ _ _; refine ret_pure rfl trivial ?_) | exact (rfl : allOne _ = true) | (refine (?_ : (0 : Int) ≤ _); omega) | (refine (?_ : _ ≠ _); omega) | (refine (?_ : srcLen _ = rowsLen _); rfl) | exact Nat.le_of_ble_eq_true rfl | exact (by kernel_rfl : drawOk _ _ = true) | refine eqv_len_map ?_ | refine eqv_size ?_ | refine eqv_put (eqv_ck ?_) | refine eqv_zero ?_ | refine eqv_wrap (by omega) (by omega) ?_ | refine eqv_u64 (by omega) (by omega) ?_ | refine eqv_u8 (by omega) (by omega) ?_ | refine eqv_to _ (set_map rfl rfl) ?_ | refine ⟨_, _, (by first | rfl | assumption), at_map (by assumption), ?_⟩ | refine ⟨_, _, (by first | rfl | assumption), (by assumption), ?_⟩ | refine ⟨_, at_map (by assumption), (by decide), ?_⟩ | refine ⟨_, at_map (by assumption), ?_⟩ | (refine (?_ : _ ≤ 140737488355328); simp [rowsLen] <;> omega) | (refine (?_ : _ ≤ 9223372036854775807); simp [rowsLen] <;> omega) | (refine (?_ : _ = rowsLen _); simp [rowsLen] <;> omega) | refine eqv_to _ (app_row rfl) (eqv_to _ app_len ?_) | refine eqv_to _ (app_first rfl) (eqv_to 1 rfl ?_) | refine idx_sl (at_map (by assumption)) (by omega) ?_ | refine idx_ms _ (by first | rfl | assumption) (by first | assumption | omega) ?_ | fail)
      change retOk _ _ _ _; refine ret_pure rfl (by repeat' (first | exact True.intro | refine And.intro ?_ ?_)) ?_
      rfl
  · rw [at_none hw]
    refine acall_of tok mixed 40 rfl (fn := Tryd.f17) (c := Tryd.f17.body.getD .skip) (by kernel_rfl) (by kernel_rfl) (by kernel_rfl) rfl 0 rfl ?_
    repeat' (first | refine o1 ?_ | refine o2 ?_ | refine k1 ?_ | refine k2 ?_ | refine k3 ?_ | refine k4 ?_ | refine k6 ?_ | refine k7 ?_ | refine k8 ?_ | refine And.intro ?_ ?_ | exact trivial | refine o3 ?_ | refine o4 ?_ | refine o5 ?_ | refine o6 ?_ | refine k5 ?_ | (intro h; first | exact Bool.noConfusion h | exact nz _ h | exact nl h | (simp at h; done) | (simp at h; first | (exfalso; omega) | skip) | skip) | (change retOk _ _ _ _; refine ret_pure rfl trivial ?_) | exact (rfl : allOne _ = true) | (refine (?_ : (0 : Int) ≤ _); omega) | (refine (?_ : _ ≠ _); omega) | (refine (?_ : srcLen _ = rowsLen _); rfl) | exact Nat.le_of_ble_eq_true rfl | exact (by kernel_rfl : drawOk _ _ = true) | refine eqv_len_map ?_ | refine eqv_size ?_ | refine eqv_put (eqv_ck ?_) | refine eqv_zero ?_ | refine eqv_wrap (by omega) (by omega) ?_ | refine eqv_u64 (by omega) (by omega) ?_ | refine eqv_u8 (by omega) (by omega) ?_ | refine eqv_to _ (set_map rfl rfl) ?_ | refine ⟨_, _, (by first | rfl | assumption), at_map (by assumption), ?_⟩ | refine ⟨_, _, (by first | rfl | assumption), (by assumption), ?_⟩ | refine ⟨_, at_map (by assumption), (by decide), ?_⟩ | refine ⟨_, at_map (by assumption), ?_⟩ | (refine (?_ : _ ≤ 140737488355328); simp [rowsLen] <;> omega) | (refine (?_ : _ ≤ 9223372036854775807); simp [rowsLen] <;> omega) | (refine (?_ : _ = rowsLen _); simp [rowsLen] <;> omega) | refine eqv_to _ (app_row rfl) (eqv_to _ app_len ?_) | refine eqv_to _ (app_first rfl) (eqv_to 1 rfl ?_) | refine idx_sl (at_map (by assumption)) (by omega) ?_ | refine idx_ms _ (by first | rfl | assumption) (by first | assumption | omega) ?_ | fail)
    all_goals try (exfalso; omega)
    all_goals (change retOk _ _ _ _; refine ret_pure rfl (by repeat' (first | exact True.intro | refine And.intro ?_ ?_)) ?_; rfl)
theorem c_rat (l : List Sess) (c : Str) (w : Int) (hl : l.length ≤ 140000000000) (hw0 : -9223372036854775808 ≤ w ∧ w ≤ 9223372036854775807) : PCall Tryd.prog 18 [.pv (encSess l), .pv (es c), vint .i64 w] (fun r => r = atV (atO l c w)) := by
  by_cases hw : 1 ≤ w ∧ w ≤ 20
  · obtain ⟨n, hn⟩ : ∃ n, (w - 1).toNat = n := ⟨_, rfl⟩
    have e2 : ∀ x : Int, x.fdiv (2 ^ min (w - 1).toNat IntKind.i64.bits) = x.fdiv (2 ^ n) := fun x => by rw [← hn]; exact shr_w x hw
    refine acall_of tok mixed 49 rfl (fn := Tryd.f18) (c := Tryd.f18.body.getD .skip) (by kernel_rfl) (by kernel_rfl) (by kernel_rfl) rfl 0 rfl ?_
    repeat' (first | refine o1 ?_ | refine o2 ?_ | refine k1 ?_ | refine k2 ?_ | refine k3 ?_ | refine k4 ?_ | refine k6 ?_ | refine k7 ?_ | refine k8 ?_ | refine And.intro ?_ ?_ | exact trivial | refine o3 ?_ | refine o4 ?_ | refine o5 ?_ | refine o6 ?_ | refine k5 ?_ | (intro h; first | exact Bool.noConfusion h | exact nz _ h | exact nl h | (simp at h; done) | (simp at h; first | (exfalso; omega) | skip) | skip) | (change retOk _ _ _ _; refine ret_pure rfl trivial ?_) | exact (rfl : allOne _ = true) | (refine (?_ : (0 : Int) ≤ _); omega) | (refine (?_ : _ ≠ _); omega) | (refine (?_ : srcLen _ = rowsLen _); rfl) | exact Nat.le_of_ble_eq_true rfl | exact (by kernel_rfl : drawOk _ _ = true) | refine eqv_len_map ?_ | refine eqv_size ?_ | refine eqv_put (eqv_ck ?_) | refine eqv_zero ?_ | refine eqv_wrap (by omega) (by omega) ?_ | refine eqv_u64 (by omega) (by omega) ?_ | refine eqv_u8 (by omega) (by omega) ?_ | refine eqv_to _ (set_map rfl rfl) ?_ | refine ⟨_, _, (by first | rfl | assumption), at_map (by assumption), ?_⟩ | refine ⟨_, _, (by first | rfl | assumption), (by assumption), ?_⟩ | refine ⟨_, at_map (by assumption), (by decide), ?_⟩ | refine ⟨_, at_map (by assumption), ?_⟩ | (refine (?_ : _ ≤ 140737488355328); simp [rowsLen] <;> omega) | (refine (?_ : _ ≤ 9223372036854775807); simp [rowsLen] <;> omega) | (refine (?_ : _ = rowsLen _); simp [rowsLen] <;> omega) | refine eqv_to _ (app_row rfl) (eqv_to _ app_len ?_) | refine eqv_to _ (app_first rfl) (eqv_to 1 rfl ?_) | refine idx_sl (at_map (by assumption)) (by omega) ?_ | refine idx_ms _ (by first | rfl | assumption) (by first | assumption | omega) ?_ | fail)
    refine loop_at (fun i : Nat => [(8, vint .i64 i)]) (fun _ => []) (fun i => i ≤ l.length ∧ ∀ j, j < i → ∀ y, l[j]? = some y → isAt c w y = false) (fun i => l.length - i) 0 ⟨Nat.zero_le _, fun j hj => by omega⟩ (by repeat' (first | exact trivial | exact rfl | exact ⟨_, rfl, ALe.refl⟩ | refine And.intro ?_ ?_)) (by repeat' (first | exact trivial | exact rfl | exact ⟨_, rfl, ALe.refl⟩ | refine And.intro ?_ ?_)) ?_
    intro i ⟨hi, hall⟩
    rcases Nat.lt_or_ge i l.length with hlt | hge
    · obtain ⟨s, hs⟩ := getE hlt
      repeat' (first | (refine eqv_u64 (by omega) (by omega) ?_) | (refine eqv_to _ (e2 s.time.weeks) ?_) | (refine (eqv_rfl ?_ : eqv (bits _ _ _ _) _)) | refine o1 ?_ | refine o2 ?_ | refine k1 ?_ | refine k2 ?_ | refine k3 ?_ | refine k4 ?_ | refine k6 ?_ | refine k7 ?_ | refine k8 ?_ | refine And.intro ?_ ?_ | exact trivial | refine o3 ?_ | refine o4 ?_ | refine o5 ?_ | refine o6 ?_ | refine k5 ?_ | (intro h; first | exact Bool.noConfusion h | exact nz _ h | exact nl h | (simp at h; done) | (simp at h; first | (exfalso; omega) | skip) | skip) | (change retOk _ _ _ _; refine ret_pure rfl trivial ?_) | exact (rfl : allOne _ = true) | (refine (?_ : (0 : Int) ≤ _); omega) | (refine (?_ : _ ≠ _); omega) | (refine (?_ : srcLen _ = rowsLen _); rfl) | exact Nat.le_of_ble_eq_true rfl | exact (by kernel_rfl : drawOk _ _ = true) | refine eqv_len_map ?_ | refine eqv_size ?_ | refine eqv_put (eqv_ck ?_) | refine eqv_zero ?_ | refine eqv_wrap (by omega) (by omega) ?_ | refine eqv_u64 (by omega) (by omega) ?_ | refine eqv_u8 (by omega) (by omega) ?_ | refine eqv_to _ (set_map rfl rfl) ?_ | refine ⟨_, _, (by first | rfl | assumption), at_map (by assumption), ?_⟩ | refine ⟨_, _, (by first | rfl | assumption), (by assumption), ?_⟩ | refine ⟨_, at_map (by assumption), (by decide), ?_⟩ | refine ⟨_, at_map (by assumption), ?_⟩ | (refine (?_ : _ ≤ 140737488355328); simp [rowsLen] <;> omega) | (refine (?_ : _ ≤ 9223372036854775807); simp [rowsLen] <;> omega) | (refine (?_ : _ = rowsLen _); simp [rowsLen] <;> omega) | refine eqv_to _ (app_row rfl) (eqv_to _ app_len ?_) | refine eqv_to _ (app_first rfl) (eqv_to 1 rfl ?_) | refine idx_sl (at_map (by assumption)) (by omega) ?_ | refine idx_ms _ (by first | rfl | assumption) (by first | assumption | omega) ?_ | fail)
      all_goals try (exfalso; omega)
      · change retOk _ _ _ _; refine ret_pure rfl (by repeat' (first | exact True.intro | refine And.intro ?_ ?_)) ?_
        rw [at_yes hw hall hs (isAt_t hn (by assumption) h)]; rfl
      · exact ⟨i + 1, ⟨by omega, all_lt_succ hall fun y hy => by rw [hs] at hy; cases hy; exact isAt_f2 hn h⟩, by omega, back [0] rfl rfl ⟨rfl, trivial⟩ (by repeat' (first | exact trivial | exact rfl | exact ⟨_, rfl, ALe.refl⟩ | refine And.intro ?_ ?_))⟩
      · have h1 : sEq s.cls c = false := by assumption
        exact ⟨i + 1, ⟨by omega, all_lt_succ hall fun y hy => by rw [hs] at hy; cases hy; exact isAt_f1 h1⟩, by omega, back [0] rfl rfl ⟨rfl, trivial⟩ (by repeat' (first | exact trivial | exact rfl | exact ⟨_, rfl, ALe.refl⟩ | refine And.intro ?_ ?_))⟩
    · rw [at_no hw fun j hj => hall j (by omega)]
      repeat' (first | refine o1 ?_ | refine o2 ?_ | refine k1 ?_ | refine k2 ?_ | refine k3 ?_ | refine k4 ?_ | refine k6 ?_ | refine k7 ?_ | refine k8 ?_ | refine And.intro ?_ ?_ | exact trivial | refine o3 ?_ | refine o4 ?_ | refine o5 ?_ | refine o6 ?_ | refine k5 ?_ | (intro h; first | exact Bool.noConfusion h | exact nz _ h | exact nl h | (simp at h; done) | (simp at h; first | (exfalso; omega) | skip) | skip) | (change retOk _ _ _ _; refine ret_pure rfl trivial ?_) | exact (rfl : allOne _ = true) | (refine (?_ : (0 : Int) ≤ _); omega) | (refine (?_ : _ ≠ _); omega) | (refine (?_ : srcLen _ = rowsLen _); rfl) | exact Nat.le_of_ble_eq_true rfl | exact (by kernel_rfl : drawOk _ _ = true) | refine eqv_len_map ?_ | refine eqv_size ?_ | refine eqv_put (eqv_ck ?_) | refine eqv_zero ?_ | refine eqv_wrap (by omega) (by omega) ?_ | refine eqv_u64 (by omega) (by omega) ?_ | refine eqv_u8 (by omega) (by omega) ?_ | refine eqv_to _ (set_map rfl rfl) ?_ | refine ⟨_, _, (by first | rfl | assumption), at_map (by assumption), ?_⟩ | refine ⟨_, _, (by first | rfl | assumption), (by assumption), ?_⟩ | refine ⟨_, at_map (by assumption), (by decide), ?_⟩ | refine ⟨_, at_map (by assumption), ?_⟩ | (refine (?_ : _ ≤ 140737488355328); simp [rowsLen] <;> omega) | (refine (?_ : _ ≤ 9223372036854775807); simp [rowsLen] <;> omega) | (refine (?_ : _ = rowsLen _); simp [rowsLen] <;> omega) | refine eqv_to _ (app_row rfl) (eqv_to _ app_len ?_) | refine eqv_to _ (app_first rfl) (eqv_to 1 rfl ?_) | refine idx_sl (at_map (by assumption)) (by omega) ?_ | refine idx_ms _ (by first | rfl | assumption) (by first | assumption | omega) ?_ | fail)
      change retOk _ _ _ _; refine ret_pure rfl (by repeat' (first | exact True.intro | refine And.intro ?_ ?_)) ?_
      rfl
  · rw [at_none hw]
    refine acall_of tok mixed 49 rfl (fn := Tryd.f18) (c := Tryd.f18.body.getD .skip) (by kernel_rfl) (by kernel_rfl) (by kernel_rfl) rfl 0 rfl ?_
    repeat' (first | refine o1 ?_ | refine o2 ?_ | refine k1 ?_ | refine k2 ?_ | refine k3 ?_ | refine k4 ?_ | refine k6 ?_ | refine k7 ?_ | refine k8 ?_ | refine And.intro ?_ ?_ | exact trivial | refine o3 ?_ | refine o4 ?_ | refine o5 ?_ | refine o6 ?_ | refine k5 ?_ | (intro h; first | exact Bool.noConfusion h | exact nz _ h | exact nl h | (simp at h; done) | (simp at h; first | (exfalso; omega) | skip) | skip) | (change retOk _ _ _ _; refine ret_pure rfl trivial ?_) | exact (rfl : allOne _ = true) | (refine (?_ : (0 : Int) ≤ _); omega) | (refine (?_ : _ ≠ _); omega) | (refine (?_ : srcLen _ = rowsLen _); rfl) | exact Nat.le_of_ble_eq_true rfl | exact (by kernel_rfl : drawOk _ _ = true) | refine eqv_len_map ?_ | refine eqv_size ?_ | refine eqv_put (eqv_ck ?_) | refine eqv_zero ?_ | refine eqv_wrap (by omega) (by omega) ?_ | refine eqv_u64 (by omega) (by omega) ?_ | refine eqv_u8 (by omega) (by omega) ?_ | refine eqv_to _ (set_map rfl rfl) ?_ | refine ⟨_, _, (by first | rfl | assumption), at_map (by assumption), ?_⟩ | refine ⟨_, _, (by first | rfl | assumption), (by assumption), ?_⟩ | refine ⟨_, at_map (by assumption), (by decide), ?_⟩ | refine ⟨_, at_map (by assumption), ?_⟩ | (refine (?_ : _ ≤ 140737488355328); simp [rowsLen] <;> omega) | (refine (?_ : _ ≤ 9223372036854775807); simp [rowsLen] <;> omega) | (refine (?_ : _ = rowsLen _); simp [rowsLen] <;> omega) | refine eqv_to _ (app_row rfl) (eqv_to _ app_len ?_) | refine eqv_to _ (app_first rfl) (eqv_to 1 rfl ?_) | refine idx_sl (at_map (by assumption)) (by omega) ?_ | refine idx_ms _ (by first | rfl | assumption) (by first | assumption | omega) ?_ | fail)
    refine loop_at (fun i : Nat => [(8, vint .i64 i)]) (fun _ => []) (fun i => i ≤ l.length) (fun i => l.length - i) 0 (Nat.zero_le _) (by repeat' (first | exact trivial | exact rfl | exact ⟨_, rfl, ALe.refl⟩ | refine And.intro ?_ ?_)) (by repeat' (first | exact trivial | exact rfl | exact ⟨_, rfl, ALe.refl⟩ | refine And.intro ?_ ?_)) ?_
    intro i hi
    rcases Nat.lt_or_ge i l.length with hlt | hge
    · obtain ⟨s, hs⟩ := getE hlt
      repeat' (first | (refine eqv_u64 (by omega) (by omega) ?_) | (refine (eqv_rfl ?_ : eqv (bits _ _ _ _) _)) | (refine (eqv_rfl ?_ : eqv (Int.fdiv _ _) _)) | refine o1 ?_ | refine o2 ?_ | refine k1 ?_ | refine k2 ?_ | refine k3 ?_ | refine k4 ?_ | refine k6 ?_ | refine k7 ?_ | refine k8 ?_ | refine And.intro ?_ ?_ | exact trivial | refine o3 ?_ | refine o4 ?_ | refine o5 ?_ | refine o6 ?_ | refine k5 ?_ | (intro h; first | exact Bool.noConfusion h | exact nz _ h | exact nl h | (simp at h; done) | (simp at h; first | (exfalso; omega) | skip) | skip) | (change retOk _ _ _ _; refine ret_pure rfl trivial ?_) | exact (rfl : allOne _ = true) | (refine (?_ : (0 : Int) ≤ _); omega) | (refine (?_ : _ ≠ _); omega) | (refine (?_ : srcLen _ = rowsLen _); rfl) | exact Nat.le_of_ble_eq_true rfl | exact (by kernel_rfl : drawOk _ _ = true) | refine eqv_len_map ?_ | refine eqv_size ?_ | refine eqv_put (eqv_ck ?_) | refine eqv_zero ?_ | refine eqv_wrap (by omega) (by omega) ?_ | refine eqv_u64 (by omega) (by omega) ?_ | refine eqv_u8 (by omega) (by omega) ?_ | refine eqv_to _ (set_map rfl rfl) ?_ | refine ⟨_, _, (by first | rfl | assumption), at_map (by assumption), ?_⟩ | refine ⟨_, _, (by first | rfl | assumption), (by assumption), ?_⟩ | refine ⟨_, at_map (by assumption), (by decide), ?_⟩ | refine ⟨_, at_map (by assumption), ?_⟩ | (refine (?_ : _ ≤ 140737488355328); simp [rowsLen] <;> omega) | (refine (?_ : _ ≤ 9223372036854775807); simp [rowsLen] <;> omega) | (refine (?_ : _ = rowsLen _); simp [rowsLen] <;> omega) | refine eqv_to _ (app_row rfl) (eqv_to _ app_len ?_) | refine eqv_to _ (app_first rfl) (eqv_to 1 rfl ?_) | refine idx_sl (at_map (by assumption)) (by omega) ?_ | refine idx_ms _ (by first | rfl | assumption) (by first | assumption | omega) ?_ | fail)
      all_goals try (exfalso; omega)
      all_goals exact ⟨i + 1, by omega, by omega, back [0] rfl rfl ⟨rfl, trivial⟩ (by repeat' (first | exact trivial | exact rfl | exact ⟨_, rfl, ALe.refl⟩ | refine And.intro ?_ ?_))⟩
    · repeat' (first | refine o1 ?_ | refine o2 ?_ | refine k1 ?_ | refine k2 ?_ | refine k3 ?_ | refine k4 ?_ | refine k6 ?_ | refine k7 ?_ | refine k8 ?_ | refine And.intro ?_ ?_ | exact trivial | refine o3 ?_ | refine o4 ?_ | refine o5 ?_ | refine o6 ?_ | refine k5 ?_ | (intro h; first | exact Bool.noConfusion h | exact nz _ h | exact nl h | (simp at h; done) | (simp at h; first | (exfalso; omega) | skip) | skip) | (change retOk _ _ _ _; refine ret_pure rfl trivial ?_) | exact (rfl : allOne _ = true) | (refine (?_ : (0 : Int) ≤ _); omega) | (refine (?_ : _ ≠ _); omega) | (refine (?_ : srcLen _ = rowsLen _); rfl) | exact Nat.le_of_ble_eq_true rfl | exact (by kernel_rfl : drawOk _ _ = true) | refine eqv_len_map ?_ | refine eqv_size ?_ | refine eqv_put (eqv_ck ?_) | refine eqv_zero ?_ | refine eqv_wrap (by omega) (by omega) ?_ | refine eqv_u64 (by omega) (by omega) ?_ | refine eqv_u8 (by omega) (by omega) ?_ | refine eqv_to _ (set_map rfl rfl) ?_ | refine ⟨_, _, (by first | rfl | assumption), at_map (by assumption), ?_⟩ | refine ⟨_, _, (by first | rfl | assumption), (by assumption), ?_⟩ | refine ⟨_, at_map (by assumption), (by decide), ?_⟩ | refine ⟨_, at_map (by assumption), ?_⟩ | (refine (?_ : _ ≤ 140737488355328); simp [rowsLen] <;> omega) | (refine (?_ : _ ≤ 9223372036854775807); simp [rowsLen] <;> omega) | (refine (?_ : _ = rowsLen _); simp [rowsLen] <;> omega) | refine eqv_to _ (app_row rfl) (eqv_to _ app_len ?_) | refine eqv_to _ (app_first rfl) (eqv_to 1 rfl ?_) | refine idx_sl (at_map (by assumption)) (by omega) ?_ | refine idx_ms _ (by first | rfl | assumption) (by first | assumption | omega) ?_ | fail)
      change retOk _ _ _ _; refine ret_pure rfl (by repeat' (first | exact True.intro | refine And.intro ?_ ?_)) ?_
      rfl
/-- Two lists are equal. -/
theorem sess_ne {x y : Sess} (h : sEq x.cls y.cls = false ∨ (¬ x.time.weeks = y.time.weeks ∨ ¬ x.time.day = y.time.day ∨ ¬ x.time.start = y.time.start ∨ ¬ x.time.len = y.time.len) ∨ sEq x.room y.room = false) : ¬ x = y := by
  rintro rfl
  rcases h with h | (h | h | h | h) | h
  · rw [sEq_self] at h; cases h
  · exact h rfl
  · exact h rfl
  · exact h rfl
  · exact h rfl
  · rw [sEq_self] at h; cases h
theorem sess_eq2 {x y : Sess} (h : sEq x.cls y.cls = true ∧ (x.time.weeks = y.time.weeks ∧ x.time.day = y.time.day ∧ x.time.start = y.time.start ∧ x.time.len = y.time.len) ∧ sEq x.room y.room = true) : x = y :=
  sess_eq (sEq_iff.1 h.1) h.2.1.1 h.2.1.2.1 h.2.1.2.2.1 h.2.1.2.2.2 (sEq_iff.1 h.2.2)
theorem lists_at {α : Type} {a b : List α} (hl : a.length = b.length) (h : ∀ j, j < a.length → ∀ x y, a[j]? = some x → b[j]? = some y → x = y) : a = b := by
  apply List.ext_getElem? 
  intro i
  rcases Nat.lt_or_ge i a.length with hi | hi
  · obtain ⟨x, hx⟩ := getE hi
    obtain ⟨y, hy⟩ := getE (show i < b.length by omega)
    rw [hx, hy, h i hi x y hx hy]
  · rw [List.getElem?_eq_none hi, List.getElem?_eq_none (by omega)]
theorem c_same (a b : List Sess) (ha : a.length ≤ 140000000000) (hb : b.length ≤ 140000000000) : PCall Tryd.prog 12 [.pv (encSess a), .pv (encSess b)] (fun r => r = vbool (pB (a = b))) := by
  refine acall_of tok mixed 26 rfl (fn := Tryd.f12) (c := Tryd.f12.body.getD .skip) (by kernel_rfl) (by kernel_rfl) (by kernel_rfl) rfl 0 rfl ?_
  repeat' (first | refine o1 ?_ | refine o2 ?_ | refine k1 ?_ | refine k2 ?_ | refine k3 ?_ | refine k4 ?_ | refine k6 ?_ | refine k7 ?_ | refine k8 ?_ | refine And.intro ?_ ?_ | exact trivial | refine o3 ?_ | refine o4 ?_ | refine o5 ?_ | refine o6 ?_ | refine k5 ?_ | (intro h; first | exact Bool.noConfusion h | exact nz _ h | exact nl h | (simp at h; done) | (simp at h; first | (exfalso; omega) | skip) | skip) | (change retOk _ _ _ _; refine ret_pure rfl trivial ?_) | exact (rfl : allOne _ = true) | (refine (?_ : (0 : Int) ≤ _); omega) | (refine (?_ : _ ≠ _); omega) | (refine (?_ : srcLen _ = rowsLen _); rfl) | exact Nat.le_of_ble_eq_true rfl | exact (by kernel_rfl : drawOk _ _ = true) | refine eqv_len_map ?_ | refine eqv_size ?_ | refine eqv_put (eqv_ck ?_) | refine eqv_zero ?_ | refine eqv_wrap (by omega) (by omega) ?_ | refine eqv_u64 (by omega) (by omega) ?_ | refine eqv_u8 (by omega) (by omega) ?_ | refine eqv_to _ (set_map rfl rfl) ?_ | refine ⟨_, _, (by first | rfl | assumption), at_map (by assumption), ?_⟩ | refine ⟨_, _, (by first | rfl | assumption), (by assumption), ?_⟩ | refine ⟨_, at_map (by assumption), (by decide), ?_⟩ | refine ⟨_, at_map (by assumption), ?_⟩ | (refine (?_ : _ ≤ 140737488355328); simp [rowsLen] <;> omega) | (refine (?_ : _ ≤ 9223372036854775807); simp [rowsLen] <;> omega) | (refine (?_ : _ = rowsLen _); simp [rowsLen] <;> omega) | refine eqv_to _ (app_row rfl) (eqv_to _ app_len ?_) | refine eqv_to _ (app_first rfl) (eqv_to 1 rfl ?_) | refine idx_sl (at_map (by assumption)) (by omega) ?_ | refine idx_ms _ (by first | rfl | assumption) (by first | assumption | omega) ?_ | fail)
  · exact congrArg vbool (pB_f fun e => by subst e; simp_all).symm
  · have hl : a.length = b.length := by omega
    refine loop_at (fun i : Nat => [(5, vint .i64 i)]) (fun _ => []) (fun i => i ≤ a.length ∧ ∀ j, j < i → ∀ x y, a[j]? = some x → b[j]? = some y → x = y) (fun i => a.length - i) 0 ⟨Nat.zero_le _, fun j hj => by omega⟩ (by repeat' (first | exact trivial | exact rfl | exact ⟨_, rfl, ALe.refl⟩ | refine And.intro ?_ ?_)) (by repeat' (first | exact trivial | exact rfl | exact ⟨_, rfl, ALe.refl⟩ | refine And.intro ?_ ?_)) ?_
    intro i ⟨hi, hall⟩
    rcases Nat.lt_or_ge i a.length with hlt | hge
    · obtain ⟨x, hx⟩ := getE hlt
      obtain ⟨y, hy⟩ := getE (show i < b.length by omega)
      repeat' (first | refine o1 ?_ | refine o2 ?_ | refine k1 ?_ | refine k2 ?_ | refine k3 ?_ | refine k4 ?_ | refine k6 ?_ | refine k7 ?_ | refine k8 ?_ | refine And.intro ?_ ?_ | exact trivial | refine o3 ?_ | refine o4 ?_ | refine o5 ?_ | refine o6 ?_ | refine k5 ?_ | (intro h; first | exact Bool.noConfusion h | exact nz _ h | exact nl h | (simp at h; done) | (simp at h; first | (exfalso; omega) | skip) | skip) | (change retOk _ _ _ _; refine ret_pure rfl trivial ?_) | exact (rfl : allOne _ = true) | (refine (?_ : (0 : Int) ≤ _); omega) | (refine (?_ : _ ≠ _); omega) | (refine (?_ : srcLen _ = rowsLen _); rfl) | exact Nat.le_of_ble_eq_true rfl | exact (by kernel_rfl : drawOk _ _ = true) | refine eqv_len_map ?_ | refine eqv_size ?_ | refine eqv_put (eqv_ck ?_) | refine eqv_zero ?_ | refine eqv_wrap (by omega) (by omega) ?_ | refine eqv_u64 (by omega) (by omega) ?_ | refine eqv_u8 (by omega) (by omega) ?_ | refine eqv_to _ (set_map rfl rfl) ?_ | refine ⟨_, _, (by first | rfl | assumption), at_map (by assumption), ?_⟩ | refine ⟨_, _, (by first | rfl | assumption), (by assumption), ?_⟩ | refine ⟨_, at_map (by assumption), (by decide), ?_⟩ | refine ⟨_, at_map (by assumption), ?_⟩ | (refine (?_ : _ ≤ 140737488355328); simp [rowsLen] <;> omega) | (refine (?_ : _ ≤ 9223372036854775807); simp [rowsLen] <;> omega) | (refine (?_ : _ = rowsLen _); simp [rowsLen] <;> omega) | refine eqv_to _ (app_row rfl) (eqv_to _ app_len ?_) | refine eqv_to _ (app_first rfl) (eqv_to 1 rfl ?_) | refine idx_sl (at_map (by assumption)) (by omega) ?_ | refine idx_ms _ (by first | rfl | assumption) (by first | assumption | omega) ?_ | fail)
      · have hne : ¬ x = y := sess_ne h
        exact congrArg vbool (pB_f fun e => hne (by subst e; rw [hx] at hy; injection hy)).symm
      · have he : x = y := sess_eq2 h
        exact ⟨i + 1, ⟨by omega, all_lt_succ hall fun x' y' q1 q2 => by rw [hx] at q1; cases q1; rw [hy] at q2; cases q2; exact he⟩, by omega, back [] rfl rfl trivial (by repeat' (first | exact trivial | exact rfl | exact ⟨_, rfl, ALe.refl⟩ | refine And.intro ?_ ?_))⟩
    · repeat' (first | refine o1 ?_ | refine o2 ?_ | refine k1 ?_ | refine k2 ?_ | refine k3 ?_ | refine k4 ?_ | refine k6 ?_ | refine k7 ?_ | refine k8 ?_ | refine And.intro ?_ ?_ | exact trivial | refine o3 ?_ | refine o4 ?_ | refine o5 ?_ | refine o6 ?_ | refine k5 ?_ | (intro h; first | exact Bool.noConfusion h | exact nz _ h | exact nl h | (simp at h; done) | (simp at h; first | (exfalso; omega) | skip) | skip) | (change retOk _ _ _ _; refine ret_pure rfl trivial ?_) | exact (rfl : allOne _ = true) | (refine (?_ : (0 : Int) ≤ _); omega) | (refine (?_ : _ ≠ _); omega) | (refine (?_ : srcLen _ = rowsLen _); rfl) | exact Nat.le_of_ble_eq_true rfl | exact (by kernel_rfl : drawOk _ _ = true) | refine eqv_len_map ?_ | refine eqv_size ?_ | refine eqv_put (eqv_ck ?_) | refine eqv_zero ?_ | refine eqv_wrap (by omega) (by omega) ?_ | refine eqv_u64 (by omega) (by omega) ?_ | refine eqv_u8 (by omega) (by omega) ?_ | refine eqv_to _ (set_map rfl rfl) ?_ | refine ⟨_, _, (by first | rfl | assumption), at_map (by assumption), ?_⟩ | refine ⟨_, _, (by first | rfl | assumption), (by assumption), ?_⟩ | refine ⟨_, at_map (by assumption), (by decide), ?_⟩ | refine ⟨_, at_map (by assumption), ?_⟩ | (refine (?_ : _ ≤ 140737488355328); simp [rowsLen] <;> omega) | (refine (?_ : _ ≤ 9223372036854775807); simp [rowsLen] <;> omega) | (refine (?_ : _ = rowsLen _); simp [rowsLen] <;> omega) | refine eqv_to _ (app_row rfl) (eqv_to _ app_len ?_) | refine eqv_to _ (app_first rfl) (eqv_to 1 rfl ?_) | refine idx_sl (at_map (by assumption)) (by omega) ?_ | refine idx_ms _ (by first | rfl | assumption) (by first | assumption | omega) ?_ | fail)
      exact congrArg vbool (pB_t (lists_at hl fun j hj => hall j (by omega))).symm
end Go.Proofs.YtbcacaodfpgflaaDoor.Cw

/-
  Plain laws of chapter 34: the classes of lists; the changes between two lists, and what they do.
-/
namespace Go.Proofs.YtbcacaodfpgflaaDoor.Cw
open Go Go.Cw Go.Proofs
set_option linter.unusedVariables false

noncomputable def ofC (l : List Sess) (c : Str) : List Sess := l.filter fun s => pB (s.cls = c)
noncomputable def clsOf (L : List Str) : List Str := compactS (sortS L)
theorem clsOf_mem {L : List Str} {x : Str} : x ∈ clsOf L ↔ x ∈ L := by
  unfold clsOf; rw [(compactS_spec (sortS_asc L)).1]; exact (sortS_perm L).mem_iff
theorem clsOf_str {L : List Str} : strS (clsOf L) := (compactS_spec (sortS_asc L)).2
theorem ofC_mem {l : List Sess} {c : Str} {s : Sess} : s ∈ ofC l c ↔ s ∈ l ∧ s.cls = c := by
  unfold ofC; rw [List.mem_filter]; simp
noncomputable def chgD (a b : List Sess) (K : List Str) : List Chg := K.filterMap fun k => if pB (ofC a k = ofC b k) then none else some ⟨k, ofC a k, ofC b k⟩
noncomputable def clsU (a b : List Sess) : List Str := clsOf (a.map Sess.cls ++ b.map Sess.cls)
noncomputable def chgV (a b : List Sess) : List Chg := chgD a b (clsU a b)
theorem flat_perm : ∀ {K : List Str} {l : List Sess}, K.Nodup → (∀ s ∈ l, s.cls ∈ K) → (K.flatMap (ofC l)).Perm l
  | [], l, _, h => by
    cases l with
    | nil => exact List.Perm.refl _
    | cons s l => exact absurd (h s (by simp)) (by simp)
  | k :: K, l, hn, h => by
    rw [List.nodup_cons] at hn
    rw [List.flatMap_cons]
    have e : K.flatMap (ofC l) = K.flatMap (ofC (l.filter fun s => !pB (s.cls = k))) := by
      have : ∀ {M : List Str}, (∀ c ∈ M, c ≠ k) → M.flatMap (ofC l) = M.flatMap (ofC (l.filter fun s => !pB (s.cls = k))) := by
        intro M
        induction M with
        | nil => intro _; rfl
        | cons c M ih =>
          intro hM
          rw [List.flatMap_cons, List.flatMap_cons, ih fun c hc => hM c (by simp [hc])]
          congr 1
          unfold ofC
          rw [List.filter_filter]
          refine List.filter_congr fun s hs => ?_
          by_cases e : s.cls = c
          · rw [pB_t e, pB_f fun e2 => hM c (by simp) (e.symm.trans e2)]; rfl
          · rw [pB_f e]; rfl
      exact this fun c hc e => hn.1 (e ▸ hc)
    rw [e]
    refine (List.Perm.append_left _ (flat_perm hn.2 fun s hs => ?_)).trans ?_
    · rw [List.mem_filter] at hs
      have := h s hs.1
      rcases List.mem_cons.1 this with e | e
      · rw [pB_t e] at hs; simp at hs
      · exact e
    · unfold ofC
      exact List.filter_append_perm _ _
theorem str_nodup {K : List Str} (h : strS K) : K.Nodup := List.Pairwise.imp (fun {a b} k e => by subst e; rw [sLt_irr] at k; cases k) h
/-- A sorted list, class by class. -/
theorem blocks {l : List Sess} (hl : l.Pairwise befP) {K : List Str} (hK : strS K) (h : ∀ s ∈ l, s.cls ∈ K) : K.flatMap (ofC l) = l := by
  refine sorted_unique (flat_perm (str_nodup hK) h) ?_ hl
  clear h
  induction K with
  | nil => exact List.Pairwise.nil
  | cons k K ih =>
    rw [strS, List.pairwise_cons] at hK
    rw [List.flatMap_cons, List.pairwise_append]
    refine ⟨List.Pairwise.filter _ hl, ih hK.2, fun a ha b hb => ?_⟩
    obtain ⟨c, hc, hb⟩ := List.mem_flatMap.1 hb
    have h1 := (ofC_mem.1 ha).2
    have h2 := (ofC_mem.1 hb).2
    exact .inl (by rw [h1, h2]; exact hK.1 c hc)

noncomputable def findC (c : List Chg) (k : Str) : Option Chg := c.find? fun x => pB (x.cls = k)
def zeroC : Chg := ⟨emp, [], []⟩
/-- Changes in order, each of which changes something. -/
def orderedP (c : List Chg) : Prop := (∀ i x y, c[i]? = some x → c[i + 1]? = some y → sLt x.cls y.cls = true) ∧ ∀ x ∈ c, x.bef ≠ x.aft
noncomputable def appAt (l : List Sess) (c : List Chg) (i : Nat) : Int := match c[i]? with
  | some x => if pB (x.bef = ofC l x.cls) then (if (ofC x.aft x.cls).length ≠ x.aft.length then 1 else 0) else 62
  | none => 0
noncomputable def appG (l : List Sess) (c : List Chg) (k : Str) : List Sess := match findC c k with
  | some x => x.aft
  | none => ofC l k
noncomputable def appL (l : List Sess) (c : List Chg) : List Sess := (clsOf (c.map Chg.cls ++ l.map Sess.cls)).flatMap (appG l c)
noncomputable def applE (l : List Sess) (c : List Chg) (w : Int) : Int :=
  if validE l w ≠ 0 then validE l w else if pB (orderedP c) then (if firstE (appAt l c) c.length ≠ 0 then firstE (appAt l c) c.length else validE (appL l c) w) else 63
noncomputable def applV (l : List Sess) (c : List Chg) (w : Int) : List Sess := if applE l c w = 0 then appL l c else []
noncomputable def diffE (a b : List Sess) (w : Int) : Int := if validE a w ≠ 0 then validE a w else validE b w
noncomputable def diffV (a b : List Sess) (w : Int) : List Chg := if diffE a b w = 0 then chgV a b else []
def invC (c : List Chg) : List Chg := c.map fun x => ⟨x.cls, x.aft, x.bef⟩
noncomputable def joinX (c d : List Chg) (k : Str) : Chg := match findC c k, findC d k with
  | some x, some y => ⟨k, x.bef, y.aft⟩
  | some x, none => ⟨k, x.bef, x.aft⟩
  | none, some y => ⟨k, y.bef, y.aft⟩
  | none, none => ⟨k, [], []⟩
noncomputable def joinG (c d : List Chg) (k : Str) : Option Chg := if pB ((joinX c d k).bef = (joinX c d k).aft) then none else some (joinX c d k)
noncomputable def joinL (c d : List Chg) : List Chg := (clsOf (c.map Chg.cls ++ d.map Chg.cls)).filterMap (joinG c d)
def joinBad (c d : List Chg) : Prop := ∃ x ∈ c, ∃ y, findC d x.cls = some y ∧ x.aft ≠ y.bef
noncomputable def joinE (c d : List Chg) : Int := if pB (orderedP c ∧ orderedP d) then (if pB (joinBad c d) then 62 else 0) else 63
noncomputable def joinV (c d : List Chg) : List Chg := if joinE c d = 0 then joinL c d else []

end Go.Proofs.YtbcacaodfpgflaaDoor.Cw

/-
  Contracts: equal lists; the sessions of a class; masked and spliced lists.
-/
namespace Go.Proofs.YtbcacaodfpgflaaDoor.Cw
open Go Go.Cw Go.Proofs
set_option linter.unusedVariables false
set_option maxRecDepth 100000
set_option maxHeartbeats 8000000

theorem c_equal (a b : List Sess) (ha : a.length ≤ 140000000000) (hb : b.length ≤ 140000000000) : PCall Tryd.prog 43 [.pv (encSess a), .pv (encSess b)] (fun r => r = vbool (pB (a = b))) := by
  refine acall_of tok mixed 26 rfl (fn := Tryd.f43) (c := Tryd.f43.body.getD .skip) (by kernel_rfl) (by kernel_rfl) (by kernel_rfl) rfl 0 rfl ?_
  repeat' (first | refine o1 ?_ | refine o2 ?_ | refine k1 ?_ | refine k2 ?_ | refine k3 ?_ | refine k4 ?_ | refine k6 ?_ | refine k7 ?_ | refine k8 ?_ | refine And.intro ?_ ?_ | exact trivial | refine o3 ?_ | refine o4 ?_ | refine o5 ?_ | refine o6 ?_ | refine k5 ?_ | (intro h; first | exact Bool.noConfusion h | exact nz _ h | exact nl h | (simp at h; done) | (simp at h; first | (exfalso; omega) | skip) | skip) | (change retOk _ _ _ _; refine ret_pure rfl trivial ?_) | exact (rfl : allOne _ = true) | (refine (?_ : (0 : Int) ≤ _); omega) | (refine (?_ : _ ≠ _); omega) | (refine (?_ : srcLen _ = rowsLen _); rfl) | exact Nat.le_of_ble_eq_true rfl | exact (by kernel_rfl : drawOk _ _ = true) | refine eqv_len_map ?_ | refine eqv_size ?_ | refine eqv_put (eqv_ck ?_) | refine eqv_zero ?_ | refine eqv_wrap (by omega) (by omega) ?_ | refine eqv_u64 (by omega) (by omega) ?_ | refine eqv_u8 (by omega) (by omega) ?_ | refine eqv_to _ (set_map rfl rfl) ?_ | refine ⟨_, _, (by first | rfl | assumption), at_map (by assumption), ?_⟩ | refine ⟨_, _, (by first | rfl | assumption), (by assumption), ?_⟩ | refine ⟨_, at_map (by assumption), (by decide), ?_⟩ | refine ⟨_, at_map (by assumption), ?_⟩ | (refine (?_ : _ ≤ 140737488355328); simp [rowsLen] <;> omega) | (refine (?_ : _ ≤ 9223372036854775807); simp [rowsLen] <;> omega) | (refine (?_ : _ = rowsLen _); simp [rowsLen] <;> omega) | refine eqv_to _ (app_row rfl) (eqv_to _ app_len ?_) | refine eqv_to _ (app_first rfl) (eqv_to 1 rfl ?_) | refine idx_sl (at_map (by assumption)) (by omega) ?_ | refine idx_ms _ (by first | rfl | assumption) (by first | assumption | omega) ?_ | fail)
  · exact congrArg vbool (pB_f fun e => by subst e; simp_all).symm
  · have hl : a.length = b.length := by omega
    refine loop_at (fun i : Nat => [(13, vint .i64 i)]) (fun _ => []) (fun i => i ≤ a.length ∧ ∀ j, j < i → ∀ x y, a[j]? = some x → b[j]? = some y → x = y) (fun i => a.length - i) 0 ⟨Nat.zero_le _, fun j hj => by omega⟩ (by repeat' (first | exact trivial | exact rfl | exact ⟨_, rfl, ALe.refl⟩ | refine And.intro ?_ ?_)) (by repeat' (first | exact trivial | exact rfl | exact ⟨_, rfl, ALe.refl⟩ | refine And.intro ?_ ?_)) ?_
    intro i ⟨hi, hall⟩
    rcases Nat.lt_or_ge i a.length with hlt | hge
    · obtain ⟨x, hx⟩ := getE hlt
      obtain ⟨y, hy⟩ := getE (show i < b.length by omega)
      repeat' (first | refine o1 ?_ | refine o2 ?_ | refine k1 ?_ | refine k2 ?_ | refine k3 ?_ | refine k4 ?_ | refine k6 ?_ | refine k7 ?_ | refine k8 ?_ | refine And.intro ?_ ?_ | exact trivial | refine o3 ?_ | refine o4 ?_ | refine o5 ?_ | refine o6 ?_ | refine k5 ?_ | (intro h; first | exact Bool.noConfusion h | exact nz _ h | exact nl h | (simp at h; done) | (simp at h; first | (exfalso; omega) | skip) | skip) | (change retOk _ _ _ _; refine ret_pure rfl trivial ?_) | exact (rfl : allOne _ = true) | (refine (?_ : (0 : Int) ≤ _); omega) | (refine (?_ : _ ≠ _); omega) | (refine (?_ : srcLen _ = rowsLen _); rfl) | exact Nat.le_of_ble_eq_true rfl | exact (by kernel_rfl : drawOk _ _ = true) | refine eqv_len_map ?_ | refine eqv_size ?_ | refine eqv_put (eqv_ck ?_) | refine eqv_zero ?_ | refine eqv_wrap (by omega) (by omega) ?_ | refine eqv_u64 (by omega) (by omega) ?_ | refine eqv_u8 (by omega) (by omega) ?_ | refine eqv_to _ (set_map rfl rfl) ?_ | refine ⟨_, _, (by first | rfl | assumption), at_map (by assumption), ?_⟩ | refine ⟨_, _, (by first | rfl | assumption), (by assumption), ?_⟩ | refine ⟨_, at_map (by assumption), (by decide), ?_⟩ | refine ⟨_, at_map (by assumption), ?_⟩ | (refine (?_ : _ ≤ 140737488355328); simp [rowsLen] <;> omega) | (refine (?_ : _ ≤ 9223372036854775807); simp [rowsLen] <;> omega) | (refine (?_ : _ = rowsLen _); simp [rowsLen] <;> omega) | refine eqv_to _ (app_row rfl) (eqv_to _ app_len ?_) | refine eqv_to _ (app_first rfl) (eqv_to 1 rfl ?_) | refine idx_sl (at_map (by assumption)) (by omega) ?_ | refine idx_ms _ (by first | rfl | assumption) (by first | assumption | omega) ?_ | fail)
      · have hne : ¬ x = y := sess_ne h
        exact congrArg vbool (pB_f fun e => hne (by subst e; rw [hx] at hy; injection hy)).symm
      · have he : x = y := sess_eq2 h
        exact ⟨i + 1, ⟨by omega, all_lt_succ hall fun x' y' q1 q2 => by rw [hx] at q1; cases q1; rw [hy] at q2; cases q2; exact he⟩, by omega, back [] rfl rfl trivial (by repeat' (first | exact trivial | exact rfl | exact ⟨_, rfl, ALe.refl⟩ | refine And.intro ?_ ?_))⟩
    · repeat' (first | refine o1 ?_ | refine o2 ?_ | refine k1 ?_ | refine k2 ?_ | refine k3 ?_ | refine k4 ?_ | refine k6 ?_ | refine k7 ?_ | refine k8 ?_ | refine And.intro ?_ ?_ | exact trivial | refine o3 ?_ | refine o4 ?_ | refine o5 ?_ | refine o6 ?_ | refine k5 ?_ | (intro h; first | exact Bool.noConfusion h | exact nz _ h | exact nl h | (simp at h; done) | (simp at h; first | (exfalso; omega) | skip) | skip) | (change retOk _ _ _ _; refine ret_pure rfl trivial ?_) | exact (rfl : allOne _ = true) | (refine (?_ : (0 : Int) ≤ _); omega) | (refine (?_ : _ ≠ _); omega) | (refine (?_ : srcLen _ = rowsLen _); rfl) | exact Nat.le_of_ble_eq_true rfl | exact (by kernel_rfl : drawOk _ _ = true) | refine eqv_len_map ?_ | refine eqv_size ?_ | refine eqv_put (eqv_ck ?_) | refine eqv_zero ?_ | refine eqv_wrap (by omega) (by omega) ?_ | refine eqv_u64 (by omega) (by omega) ?_ | refine eqv_u8 (by omega) (by omega) ?_ | refine eqv_to _ (set_map rfl rfl) ?_ | refine ⟨_, _, (by first | rfl | assumption), at_map (by assumption), ?_⟩ | refine ⟨_, _, (by first | rfl | assumption), (by assumption), ?_⟩ | refine ⟨_, at_map (by assumption), (by decide), ?_⟩ | refine ⟨_, at_map (by assumption), ?_⟩ | (refine (?_ : _ ≤ 140737488355328); simp [rowsLen] <;> omega) | (refine (?_ : _ ≤ 9223372036854775807); simp [rowsLen] <;> omega) | (refine (?_ : _ = rowsLen _); simp [rowsLen] <;> omega) | refine eqv_to _ (app_row rfl) (eqv_to _ app_len ?_) | refine eqv_to _ (app_first rfl) (eqv_to 1 rfl ?_) | refine idx_sl (at_map (by assumption)) (by omega) ?_ | refine idx_ms _ (by first | rfl | assumption) (by first | assumption | omega) ?_ | fail)
      exact congrArg vbool (pB_t (lists_at hl fun j hj => hall j (by omega))).symm
section
variable {P : Program} {f : FuncId} {H : Heap} {K : AV → Heap → Prop} {id z ty : Nat} {rows : List (List PV)} {v : AV}
/-- A call is handed a slice that grows no more, and a plain value; what it hands back is known. -/
theorem call_slF {q : PV} (ho : H[id]? = some (obP ty z rows)) (hp : PCall P f [.pv (.sl z rows), .pv q] (fun r => r = v)) (hK : ∀ H' : Heap, H'.length = H.length → K v H') : vcFun P f [slP id z rows, .pv q] H K := by
  obtain ⟨r0, h1, h2, h3⟩ := conv_sl ho
  have hle : ALeL [r0, .pv q] [.pv (.sl z rows), .pv q] := ⟨h3, ALe.refl, trivial⟩
  refine call_frz (as0 := [r0, .pv q]) ?_ ?_ hle hp ?_
  · simp only [mapO, h1, conv_pv]
  · rw [andL_cons ok1_pv]
    exact ⟨h2, trivial⟩
  · rintro r rfl
    exact hK _ (app_length ..)
end
theorem ofC_t {l : List Sess} {c : Str} {i : Nat} {s : Sess} (hs : l[i]? = some s) (h : sEq s.cls c = true) : ofC (l.take (i + 1)) c = ofC (l.take i) c ++ [s] := by
  unfold ofC; rw [take_snoc hs, List.filter_append]; simp [sEq_iff.1 h]
theorem ofC_f {l : List Sess} {c : Str} {i : Nat} {s : Sess} (hs : l[i]? = some s) (h : sEq s.cls c = false) : ofC (l.take (i + 1)) c = ofC (l.take i) c := by
  unfold ofC; rw [take_snoc hs, List.filter_append]; simp [sEq_f.1 h]
theorem ofC_len {l : List Sess} {c : Str} {i : Nat} : (ofC (l.take i) c).length ≤ i := by
  have h1 : (ofC (l.take i) c).length ≤ (l.take i).length := List.length_filter_le ..
  have h2 : (l.take i).length ≤ i := List.length_take_le ..
  omega
theorem c_of0 (l : List Sess) (c : Str) (hl : l.length ≤ 1000000000) : PCall Tryd.prog 42 [.pv (encSess l), .pv (es c)] (fun r => Leq r (.pv (encSess (ofC l c)))) := by
  refine acall_of tok mixed 24 rfl (fn := Tryd.f42) (c := Tryd.f42.body.getD .skip) (by kernel_rfl) (by kernel_rfl) (by kernel_rfl) rfl 0 rfl ?_
  repeat' (first | refine o1 ?_ | refine o2 ?_ | refine k1 ?_ | refine k2 ?_ | refine k3 ?_ | refine k4 ?_ | refine k6 ?_ | refine k7 ?_ | refine k8 ?_ | refine And.intro ?_ ?_ | exact trivial | refine o3 ?_ | refine o4 ?_ | refine o5 ?_ | refine o6 ?_ | refine k5 ?_ | (intro h; first | exact Bool.noConfusion h | exact nz _ h | exact nl h | (simp at h; done) | (simp at h; first | (exfalso; omega) | skip) | skip) | (change retOk _ _ _ _; refine ret_pure rfl trivial ?_) | exact (rfl : allOne _ = true) | (refine (?_ : (0 : Int) ≤ _); omega) | (refine (?_ : _ ≠ _); omega) | (refine (?_ : srcLen _ = rowsLen _); rfl) | exact Nat.le_of_ble_eq_true rfl | exact (by kernel_rfl : drawOk _ _ = true) | refine eqv_len_map ?_ | refine eqv_size ?_ | refine eqv_put (eqv_ck ?_) | refine eqv_zero ?_ | refine eqv_wrap (by omega) (by omega) ?_ | refine eqv_u64 (by omega) (by omega) ?_ | refine eqv_u8 (by omega) (by omega) ?_ | refine eqv_to _ (set_map rfl rfl) ?_ | refine ⟨_, _, (by first | rfl | assumption), at_map (by assumption), ?_⟩ | refine ⟨_, _, (by first | rfl | assumption), (by assumption), ?_⟩ | refine ⟨_, at_map (by assumption), (by decide), ?_⟩ | refine ⟨_, at_map (by assumption), ?_⟩ | (refine (?_ : _ ≤ 140737488355328); simp [rowsLen] <;> omega) | (refine (?_ : _ ≤ 9223372036854775807); simp [rowsLen] <;> omega) | (refine (?_ : _ = rowsLen _); simp [rowsLen] <;> omega) | refine eqv_to _ (app_row rfl) (eqv_to _ app_len ?_) | refine eqv_to _ (app_first rfl) (eqv_to 1 rfl ?_) | refine idx_sl (at_map (by assumption)) (by omega) ?_ | refine idx_ms _ (by first | rfl | assumption) (by first | assumption | omega) ?_ | fail)
  refine loop_for (fun i : Nat => [(0, .pv (encSess l)), (1, .pv (es c)), (5, slP 0 6 ((ofC (l.take i) c).map Sess.row)), (8, .pv (encSess l)), (9, vint .i64 l.length), (10, vint .i64 i)]) (fun i => [obP 45 6 ((ofC (l.take i) c).map Sess.row)]) (fun i => i ≤ l.length) (fun i => l.length - i) 0 (Nat.zero_le _) ?_ ?_
  · exact back [0] rfl rfl (by repeat' (first | exact trivial | exact rfl | exact ren_get rfl | refine kept_ob rfl ?_ | exact ⟨_, rfl, ALe.refl⟩ | refine And.intro ?_ ?_)) (by repeat' (first | exact trivial | exact rfl | exact ren_get rfl | refine kept_ob rfl ?_ | exact ⟨_, rfl, ALe.refl⟩ | refine And.intro ?_ ?_))
  intro i hi
  rcases Nat.lt_or_ge i l.length with hlt | hge
  · obtain ⟨s, hs⟩ := getE hlt
    have ht := ofC_t (c := c) hs
    have hf := ofC_f (c := c) hs
    have hn := ofC_len (l := l) (c := c) (i := i)
    generalize ofC (l.take i) c = L at *
    repeat' (first | (refine fv_sl ?_) | (refine fh_ob ?_) | ((refine o_app rfl rfl rfl rfl rfl rfl rfl rfl rfl rfl rfl (by rw [List.length_map]; omega) (by rw [List.length_map]; omega) ?_)) | refine o1 ?_ | refine o2 ?_ | refine k1 ?_ | refine k2 ?_ | refine k3 ?_ | refine k4 ?_ | refine k6 ?_ | refine k7 ?_ | refine k8 ?_ | refine And.intro ?_ ?_ | exact trivial | refine o3 ?_ | refine o4 ?_ | refine o5 ?_ | refine o6 ?_ | refine k5 ?_ | (intro h; first | exact Bool.noConfusion h | exact nz _ h | exact nl h | (simp at h; done) | (simp at h; first | (exfalso; omega) | skip) | skip) | (change retOk _ _ _ _; refine ret_pure rfl trivial ?_) | exact (rfl : allOne _ = true) | (refine (?_ : (0 : Int) ≤ _); omega) | (refine (?_ : _ ≠ _); omega) | (refine (?_ : srcLen _ = rowsLen _); rfl) | exact Nat.le_of_ble_eq_true rfl | exact (by kernel_rfl : drawOk _ _ = true) | refine eqv_len_map ?_ | refine eqv_size ?_ | refine eqv_put (eqv_ck ?_) | refine eqv_zero ?_ | refine eqv_wrap (by omega) (by omega) ?_ | refine eqv_u64 (by omega) (by omega) ?_ | refine eqv_u8 (by omega) (by omega) ?_ | refine eqv_to _ (set_map rfl rfl) ?_ | refine ⟨_, _, (by first | rfl | assumption), at_map (by assumption), ?_⟩ | refine ⟨_, _, (by first | rfl | assumption), (by assumption), ?_⟩ | refine ⟨_, at_map (by assumption), (by decide), ?_⟩ | refine ⟨_, at_map (by assumption), ?_⟩ | (refine (?_ : _ ≤ 140737488355328); simp [rowsLen] <;> omega) | (refine (?_ : _ ≤ 9223372036854775807); simp [rowsLen] <;> omega) | (refine (?_ : _ = rowsLen _); simp [rowsLen] <;> omega) | refine eqv_to _ (app_row rfl) (eqv_to _ app_len ?_) | refine eqv_to _ (app_first rfl) (eqv_to 1 rfl ?_) | refine idx_sl (at_map (by assumption)) (by omega) ?_ | refine idx_ms _ (by first | rfl | assumption) (by first | assumption | omega) ?_ | fail)
    · refine ⟨i + 1, hlt, by omega, ?_⟩
      rw [ht h, map_snoc, sl_app, ob_app]
      exact back [3] rfl rfl (by repeat' (first | exact trivial | exact rfl | exact ren_get rfl | refine kept_ob rfl ?_ | exact ⟨_, rfl, ALe.refl⟩ | refine And.intro ?_ ?_)) (by repeat' (first | exact trivial | exact rfl | exact ren_get rfl | refine kept_ob rfl ?_ | exact ⟨_, rfl, ALe.refl⟩ | refine And.intro ?_ ?_))
    · refine ⟨i + 1, hlt, by omega, ?_⟩
      rw [hf h]
      exact back [0] rfl rfl (by repeat' (first | exact trivial | exact rfl | exact ren_get rfl | refine kept_ob rfl ?_ | exact ⟨_, rfl, ALe.refl⟩ | refine And.intro ?_ ?_)) (by repeat' (first | exact trivial | exact rfl | exact ren_get rfl | refine kept_ob rfl ?_ | exact ⟨_, rfl, ALe.refl⟩ | refine And.intro ?_ ?_))
  · obtain rfl : i = l.length := by omega
    rw [List.take_length]
    repeat' (first | (refine fv_sl ?_) | (refine fh_ob ?_) | refine o1 ?_ | refine o2 ?_ | refine k1 ?_ | refine k2 ?_ | refine k3 ?_ | refine k4 ?_ | refine k6 ?_ | refine k7 ?_ | refine k8 ?_ | refine And.intro ?_ ?_ | exact trivial | refine o3 ?_ | refine o4 ?_ | refine o5 ?_ | refine o6 ?_ | refine k5 ?_ | (intro h; first | exact Bool.noConfusion h | exact nz _ h | exact nl h | (simp at h; done) | (simp at h; first | (exfalso; omega) | skip) | skip) | (change retOk _ _ _ _; refine ret_pure rfl trivial ?_) | exact (rfl : allOne _ = true) | (refine (?_ : (0 : Int) ≤ _); omega) | (refine (?_ : _ ≠ _); omega) | (refine (?_ : srcLen _ = rowsLen _); rfl) | exact Nat.le_of_ble_eq_true rfl | exact (by kernel_rfl : drawOk _ _ = true) | refine eqv_len_map ?_ | refine eqv_size ?_ | refine eqv_put (eqv_ck ?_) | refine eqv_zero ?_ | refine eqv_wrap (by omega) (by omega) ?_ | refine eqv_u64 (by omega) (by omega) ?_ | refine eqv_u8 (by omega) (by omega) ?_ | refine eqv_to _ (set_map rfl rfl) ?_ | refine ⟨_, _, (by first | rfl | assumption), at_map (by assumption), ?_⟩ | refine ⟨_, _, (by first | rfl | assumption), (by assumption), ?_⟩ | refine ⟨_, at_map (by assumption), (by decide), ?_⟩ | refine ⟨_, at_map (by assumption), ?_⟩ | (refine (?_ : _ ≤ 140737488355328); simp [rowsLen] <;> omega) | (refine (?_ : _ ≤ 9223372036854775807); simp [rowsLen] <;> omega) | (refine (?_ : _ = rowsLen _); simp [rowsLen] <;> omega) | refine eqv_to _ (app_row rfl) (eqv_to _ app_len ?_) | refine eqv_to _ (app_first rfl) (eqv_to 1 rfl ?_) | refine idx_sl (at_map (by assumption)) (by omega) ?_ | refine idx_ms _ (by first | rfl | assumption) (by first | assumption | omega) ?_ | fail)
    exact ret_sl rfl ⟨ALe.refl⟩ leq_down
theorem c_of (l : List Sess) (c : Str) (hl : l.length ≤ 1000000000) : PCall Tryd.prog 42 [.pv (encSess l), .pv (es c)] (fun r => r = .pv (encSess (ofC l c))) := (c_of0 l c hl).weak fun r k => ⟨_, k.le, rfl⟩

theorem masked_t {f : Int → Int} {l : List Sess} {i : Nat} {s : Sess} (hs : l[i]? = some s) (h : ¬ f s.time.weeks = 0) : masked f (l.take (i + 1)) = masked f (l.take i) ++ [setW s (f s.time.weeks)] := by
  unfold masked; rw [take_snoc hs, List.flatMap_append]; simp [h]
theorem masked_f {f : Int → Int} {l : List Sess} {i : Nat} {s : Sess} (hs : l[i]? = some s) (h : f s.time.weeks = 0) : masked f (l.take (i + 1)) = masked f (l.take i) := by
  unfold masked; rw [take_snoc hs, List.flatMap_append]; simp [h]
theorem masked_len {f : Int → Int} {l : List Sess} : ∀ {i : Nat}, (masked f (l.take i)).length ≤ i
  | 0 => by simp [masked]
  | i + 1 => by
    have ih := masked_len (f := f) (l := l) (i := i)
    rcases Nat.lt_or_ge i l.length with hlt | hge
    · obtain ⟨s, hs⟩ := getE hlt
      by_cases h : f s.time.weeks = 0
      · rw [masked_f hs h]; omega
      · rw [masked_t hs h, List.length_append]; simp; omega
    · rw [List.take_of_length_le (by omega)] at *; omega
def andS (m x : Int) : Int := bits .and .i64 x m
theorem masked_all {f : Int → Int} {l : List Sess} : (masked f l).length ≤ l.length := by
  have := masked_len (f := f) (l := l) (i := l.length)
  rwa [List.take_length] at this
theorem first_wrap {k : Int} (h : 1 ≤ k ∧ k ≤ 21) : IntKind.i64.wrap (2 ^ (k - 1).toNat - 1) = firstM k := by
  have h1 := pow2_pos (k - 1).toNat
  have h2 := pow2_le (n := (k - 1).toNat) (by omega)
  exact wrap64 (by omega) (by omega)
section
variable {a b : List Sess} {w k : Int}
theorem sp1 (h : validE a w ≠ 0) : splE a b w k = validE a w ∧ splV a b w k = [] := by
  have e : splE a b w k = validE a w := by unfold splE; rw [if_pos h]
  exact ⟨e, by unfold splV; rw [e, if_neg h]⟩
theorem sp2 (h0 : validE a w = 0) (h : validE b w ≠ 0) : splE a b w k = validE b w ∧ splV a b w k = [] := by
  have e : splE a b w k = validE b w := by unfold splE; rw [if_neg (by simp [h0]), if_pos h]
  exact ⟨e, by unfold splV; rw [e, if_neg h]⟩
theorem sp3 (h0 : validE a w = 0) (h1 : validE b w = 0) (h : k < 1 ∨ w + 1 < k) : splE a b w k = 3 ∧ splV a b w k = [] := by
  have e : splE a b w k = 3 := by unfold splE; rw [if_neg (by simp [h0]), if_neg (by simp [h1]), if_pos h]
  exact ⟨e, by unfold splV; rw [e]; rfl⟩
theorem sp4 (h0 : validE a w = 0) (h1 : validE b w = 0) (h : ¬ (k < 1 ∨ w + 1 < k)) : splE a b w k = normE (splL a b k) w ∧ splV a b w k = normV (splL a b k) w := by
  have e : splE a b w k = normE (splL a b k) w := by unfold splE; rw [if_neg (by simp [h0]), if_neg (by simp [h1]), if_neg h]
  refine ⟨e, ?_⟩
  unfold splV
  rw [e]
  by_cases hz : normE (splL a b k) w = 0
  · rw [if_pos hz]
  · rw [if_neg hz]; unfold normV; rw [if_neg hz]
end
theorem c_splice0 (a b : List Sess) (w k : Int) (ha : a.length ≤ 100000000) (hb : b.length ≤ 100000000) : PCall Tryd.prog 10 [.pv (encSess a), .pv (encSess b), vint .i64 w, vint .i64 k] (fun r => Leq r (.tup [.pv (encSess (splV a b w k)), vint .i64 (splE a b w k)])) := by
  have hva := c_valid a w (by omega)
  have hvb := c_valid b w (by omega)
  by_cases h0 : validE a w = 0
  · by_cases h1 : validE b w = 0
    · have hw := (valid_parts h0).1
      by_cases hk : k < 1 ∨ w + 1 < k
      · obtain ⟨g1, g2⟩ := sp3 (k := k) h0 h1 hk
        rw [h0] at hva; rw [h1] at hvb
        refine acall_of tok mixed 91 rfl (fn := Tryd.f10) (c := Tryd.f10.body.getD .skip) (by kernel_rfl) (by kernel_rfl) (by kernel_rfl) rfl 0 rfl ?_
        repeat' (first | refine o1 ?_ | refine o2 ?_ | refine k1 ?_ | refine k2 ?_ | refine k3 ?_ | refine k4 ?_ | refine k6 ?_ | refine k7 ?_ | refine k8 ?_ | refine And.intro ?_ ?_ | exact trivial | refine o3 ?_ | refine o4 ?_ | refine o5 ?_ | refine o6 ?_ | refine k5 ?_ | (intro h; first | exact Bool.noConfusion h | exact nz _ h | exact nl h | (simp at h; done) | (simp at h; first | (exfalso; omega) | skip) | skip) | (change retOk _ _ _ _; refine ret_pure rfl trivial ?_) | exact (rfl : allOne _ = true) | (refine (?_ : (0 : Int) ≤ _); omega) | (refine (?_ : _ ≠ _); omega) | (refine (?_ : srcLen _ = rowsLen _); rfl) | exact Nat.le_of_ble_eq_true rfl | exact (by kernel_rfl : drawOk _ _ = true) | refine eqv_len_map ?_ | refine eqv_size ?_ | refine eqv_put (eqv_ck ?_) | refine eqv_zero ?_ | refine eqv_wrap (by omega) (by omega) ?_ | refine eqv_u64 (by omega) (by omega) ?_ | refine eqv_u8 (by omega) (by omega) ?_ | refine eqv_to _ (set_map rfl rfl) ?_ | refine ⟨_, _, (by first | rfl | assumption), at_map (by assumption), ?_⟩ | refine ⟨_, _, (by first | rfl | assumption), (by assumption), ?_⟩ | refine ⟨_, at_map (by assumption), (by decide), ?_⟩ | refine ⟨_, at_map (by assumption), ?_⟩ | (refine (?_ : _ ≤ 140737488355328); simp [rowsLen] <;> omega) | (refine (?_ : _ ≤ 9223372036854775807); simp [rowsLen] <;> omega) | (refine (?_ : _ = rowsLen _); simp [rowsLen] <;> omega) | refine eqv_to _ (app_row rfl) (eqv_to _ app_len ?_) | refine eqv_to _ (app_first rfl) (eqv_to 1 rfl ?_) | refine idx_sl (at_map (by assumption)) (by omega) ?_ | refine idx_ms _ (by first | rfl | assumption) (by first | assumption | omega) ?_ | (change vcFun _ _ _ _ _; refine call_eq rfl (by repeat' (first | trivial | refine And.intro ?_ ?_ | (show 0 + _ ≤ List.length _; simp))) ALeL.refl (hva) rfl ?_) | (change vcFun _ _ _ _ _; refine call_eq rfl (by repeat' (first | trivial | refine And.intro ?_ ?_ | (show 0 + _ ≤ List.length _; simp))) ALeL.refl (hvb) rfl ?_) | fail)
        all_goals try (exfalso; omega)
        all_goals exact leq_nil g2 g1
      · obtain ⟨g1, g2⟩ := sp4 (k := k) h0 h1 hk
        rw [g1, g2]
        rw [h0] at hva; rw [h1] at hvb
        have e1 := first_wrap (k := k) (by omega)
        have hn := c_norm (splL a b k) w (by unfold splL; rw [List.length_append]; have h1 := masked_all (f := andF k) (l := a); have h2 := masked_all (f := notF k) (l := b); omega)
        obtain ⟨F, hF⟩ : ∃ F, firstM k = F := ⟨_, rfl⟩
        rw [hF] at e1
        have ea : ∀ x, andF k x = bits .and .i64 x F := fun x => by unfold andF; rw [hF]
        have en : ∀ x, notF k x = bits .andNot .i64 x F := fun x => by unfold notF; rw [hF]
        refine acall_of tok mixed 91 rfl (fn := Tryd.f10) (c := Tryd.f10.body.getD .skip) (by kernel_rfl) (by kernel_rfl) (by kernel_rfl) rfl 0 rfl ?_
        repeat' (first | (refine eqv_shl (by omega) ?_) | (refine eqv_to _ e1 ?_) | refine o1 ?_ | refine o2 ?_ | refine k1 ?_ | refine k2 ?_ | refine k3 ?_ | refine k4 ?_ | refine k6 ?_ | refine k7 ?_ | refine k8 ?_ | refine And.intro ?_ ?_ | exact trivial | refine o3 ?_ | refine o4 ?_ | refine o5 ?_ | refine o6 ?_ | refine k5 ?_ | (intro h; first | exact Bool.noConfusion h | exact nz _ h | exact nl h | (simp at h; done) | (simp at h; first | (exfalso; omega) | skip) | skip) | (change retOk _ _ _ _; refine ret_pure rfl trivial ?_) | exact (rfl : allOne _ = true) | (refine (?_ : (0 : Int) ≤ _); omega) | (refine (?_ : _ ≠ _); omega) | (refine (?_ : srcLen _ = rowsLen _); rfl) | exact Nat.le_of_ble_eq_true rfl | exact (by kernel_rfl : drawOk _ _ = true) | refine eqv_len_map ?_ | refine eqv_size ?_ | refine eqv_put (eqv_ck ?_) | refine eqv_zero ?_ | refine eqv_wrap (by omega) (by omega) ?_ | refine eqv_u64 (by omega) (by omega) ?_ | refine eqv_u8 (by omega) (by omega) ?_ | refine eqv_to _ (set_map rfl rfl) ?_ | refine ⟨_, _, (by first | rfl | assumption), at_map (by assumption), ?_⟩ | refine ⟨_, _, (by first | rfl | assumption), (by assumption), ?_⟩ | refine ⟨_, at_map (by assumption), (by decide), ?_⟩ | refine ⟨_, at_map (by assumption), ?_⟩ | (refine (?_ : _ ≤ 140737488355328); simp [rowsLen] <;> omega) | (refine (?_ : _ ≤ 9223372036854775807); simp [rowsLen] <;> omega) | (refine (?_ : _ = rowsLen _); simp [rowsLen] <;> omega) | refine eqv_to _ (app_row rfl) (eqv_to _ app_len ?_) | refine eqv_to _ (app_first rfl) (eqv_to 1 rfl ?_) | refine idx_sl (at_map (by assumption)) (by omega) ?_ | refine idx_ms _ (by first | rfl | assumption) (by first | assumption | omega) ?_ | (change vcFun _ _ _ _ _; refine call_eq rfl (by repeat' (first | trivial | refine And.intro ?_ ?_ | (show 0 + _ ≤ List.length _; simp))) ALeL.refl (hva) rfl ?_) | (change vcFun _ _ _ _ _; refine call_eq rfl (by repeat' (first | trivial | refine And.intro ?_ ?_ | (show 0 + _ ≤ List.length _; simp))) ALeL.refl (hvb) rfl ?_) | fail)
        all_goals try (exfalso; omega)
        refine loop_for (fun i : Nat => [(0, .pv (encSess a)), (1, .pv (encSess b)), (2, vint .i64 w), (12, vint .i64 F), (13, slP 0 6 ((masked (andF k) (a.take i)).map Sess.row)), (42, .pv (encSess a)), (43, vint .i64 a.length), (44, vint .i64 i)]) (fun i => [obP 45 6 ((masked (andF k) (a.take i)).map Sess.row)]) (fun i => i ≤ a.length) (fun i => a.length - i) 0 (Nat.zero_le _) ?_ ?_
        · exact back [0] rfl rfl (by repeat' (first | exact trivial | exact rfl | exact ren_get rfl | refine kept_ob rfl ?_ | exact ⟨_, rfl, ALe.refl⟩ | refine And.intro ?_ ?_)) (by repeat' (first | exact trivial | exact rfl | exact ren_get rfl | refine kept_ob rfl ?_ | exact ⟨_, rfl, ALe.refl⟩ | refine And.intro ?_ ?_))
        intro i hi
        rcases Nat.lt_or_ge i a.length with hlt | hge
        · obtain ⟨s, hs⟩ := getE hlt
          have ht := masked_t (f := andF k) hs
          have hf := masked_f (f := andF k) hs
          have hn := masked_len (f := andF k) (l := a) (i := i)
          generalize masked (andF k) (a.take i) = L at *
          rw [ea] at ht hf
          repeat' (first | (refine fv_sl ?_) | (refine fh_ob ?_) | (refine (eqv_rfl ?_ : eqv (bits _ _ _ _) _)) | ((refine o_app rfl rfl rfl rfl rfl rfl rfl rfl rfl rfl rfl (by rw [List.length_map]; omega) (by rw [List.length_map]; omega) ?_)) | refine o1 ?_ | refine o2 ?_ | refine k1 ?_ | refine k2 ?_ | refine k3 ?_ | refine k4 ?_ | refine k6 ?_ | refine k7 ?_ | refine k8 ?_ | refine And.intro ?_ ?_ | exact trivial | refine o3 ?_ | refine o4 ?_ | refine o5 ?_ | refine o6 ?_ | refine k5 ?_ | (intro h; first | exact Bool.noConfusion h | exact nz _ h | exact nl h | (simp at h; done) | (simp at h; first | (exfalso; omega) | skip) | skip) | (change retOk _ _ _ _; refine ret_pure rfl trivial ?_) | exact (rfl : allOne _ = true) | (refine (?_ : (0 : Int) ≤ _); omega) | (refine (?_ : _ ≠ _); omega) | (refine (?_ : srcLen _ = rowsLen _); rfl) | exact Nat.le_of_ble_eq_true rfl | exact (by kernel_rfl : drawOk _ _ = true) | refine eqv_len_map ?_ | refine eqv_size ?_ | refine eqv_put (eqv_ck ?_) | refine eqv_zero ?_ | refine eqv_wrap (by omega) (by omega) ?_ | refine eqv_u64 (by omega) (by omega) ?_ | refine eqv_u8 (by omega) (by omega) ?_ | refine eqv_to _ (set_map rfl rfl) ?_ | refine ⟨_, _, (by first | rfl | assumption), at_map (by assumption), ?_⟩ | refine ⟨_, _, (by first | rfl | assumption), (by assumption), ?_⟩ | refine ⟨_, at_map (by assumption), (by decide), ?_⟩ | refine ⟨_, at_map (by assumption), ?_⟩ | (refine (?_ : _ ≤ 140737488355328); simp [rowsLen] <;> omega) | (refine (?_ : _ ≤ 9223372036854775807); simp [rowsLen] <;> omega) | (refine (?_ : _ = rowsLen _); simp [rowsLen] <;> omega) | refine eqv_to _ (app_row rfl) (eqv_to _ app_len ?_) | refine eqv_to _ (app_first rfl) (eqv_to 1 rfl ?_) | refine idx_sl (at_map (by assumption)) (by omega) ?_ | refine idx_ms _ (by first | rfl | assumption) (by first | assumption | omega) ?_ | fail)
          · refine ⟨i + 1, hlt, by omega, ?_⟩
            rw [ht h, map_snoc, sl_app, ob_app]
            exact back [3] rfl rfl (by repeat' (first | exact trivial | exact rfl | exact ren_get rfl | refine kept_ob rfl ?_ | exact ⟨_, rfl, ALe.refl⟩ | refine And.intro ?_ ?_)) (by repeat' (first | exact trivial | exact rfl | exact ren_get rfl | refine kept_ob rfl ?_ | exact ⟨_, rfl, ALe.refl⟩ | refine And.intro ?_ ?_))
          · refine ⟨i + 1, hlt, by omega, ?_⟩
            rw [hf h]
            exact back [0] rfl rfl (by repeat' (first | exact trivial | exact rfl | exact ren_get rfl | refine kept_ob rfl ?_ | exact ⟨_, rfl, ALe.refl⟩ | refine And.intro ?_ ?_)) (by repeat' (first | exact trivial | exact rfl | exact ren_get rfl | refine kept_ob rfl ?_ | exact ⟨_, rfl, ALe.refl⟩ | refine And.intro ?_ ?_))
        · obtain rfl : i = a.length := by omega
          rw [List.take_length]
          have hla := masked_all (f := andF k) (l := a)
          unfold splL at hn ⊢
          repeat' (first | (refine fv_sl ?_) | (refine fh_ob ?_) | refine o1 ?_ | refine o2 ?_ | refine k1 ?_ | refine k2 ?_ | refine k3 ?_ | refine k4 ?_ | refine k6 ?_ | refine k7 ?_ | refine k8 ?_ | refine And.intro ?_ ?_ | exact trivial | refine o3 ?_ | refine o4 ?_ | refine o5 ?_ | refine o6 ?_ | refine k5 ?_ | (intro h; first | exact Bool.noConfusion h | exact nz _ h | exact nl h | (simp at h; done) | (simp at h; first | (exfalso; omega) | skip) | skip) | (change retOk _ _ _ _; refine ret_pure rfl trivial ?_) | exact (rfl : allOne _ = true) | (refine (?_ : (0 : Int) ≤ _); omega) | (refine (?_ : _ ≠ _); omega) | (refine (?_ : srcLen _ = rowsLen _); rfl) | exact Nat.le_of_ble_eq_true rfl | exact (by kernel_rfl : drawOk _ _ = true) | refine eqv_len_map ?_ | refine eqv_size ?_ | refine eqv_put (eqv_ck ?_) | refine eqv_zero ?_ | refine eqv_wrap (by omega) (by omega) ?_ | refine eqv_u64 (by omega) (by omega) ?_ | refine eqv_u8 (by omega) (by omega) ?_ | refine eqv_to _ (set_map rfl rfl) ?_ | refine ⟨_, _, (by first | rfl | assumption), at_map (by assumption), ?_⟩ | refine ⟨_, _, (by first | rfl | assumption), (by assumption), ?_⟩ | refine ⟨_, at_map (by assumption), (by decide), ?_⟩ | refine ⟨_, at_map (by assumption), ?_⟩ | (refine (?_ : _ ≤ 140737488355328); simp [rowsLen] <;> omega) | (refine (?_ : _ ≤ 9223372036854775807); simp [rowsLen] <;> omega) | (refine (?_ : _ = rowsLen _); simp [rowsLen] <;> omega) | refine eqv_to _ (app_row rfl) (eqv_to _ app_len ?_) | refine eqv_to _ (app_first rfl) (eqv_to 1 rfl ?_) | refine idx_sl (at_map (by assumption)) (by omega) ?_ | refine idx_ms _ (by first | rfl | assumption) (by first | assumption | omega) ?_ | fail)
          refine loop_for (fun i : Nat => [(2, vint .i64 w), (12, vint .i64 F), (13, slP 0 6 ((masked (andF k) a ++ masked (notF k) (b.take i)).map Sess.row)), (64, .pv (encSess b)), (65, vint .i64 b.length), (66, vint .i64 i)]) (fun i => [obP 45 6 ((masked (andF k) a ++ masked (notF k) (b.take i)).map Sess.row)]) (fun i => i ≤ b.length) (fun i => b.length - i) 0 (Nat.zero_le _) ?_ ?_
          · rw [show masked (andF k) a ++ masked (notF k) (b.take 0) = masked (andF k) a by simp [masked]]
            exact back [0] rfl rfl (by repeat' (first | exact trivial | exact rfl | exact ren_get rfl | refine kept_ob rfl ?_ | exact ⟨_, rfl, ALe.refl⟩ | refine And.intro ?_ ?_)) (by repeat' (first | exact trivial | exact rfl | exact ren_get rfl | refine kept_ob rfl ?_ | exact ⟨_, rfl, ALe.refl⟩ | refine And.intro ?_ ?_))
          intro i hi
          generalize masked (andF k) a = A at *
          rcases Nat.lt_or_ge i b.length with hlt | hge
          · obtain ⟨s, hs⟩ := getE hlt
            have ht := masked_t (f := notF k) hs
            have hf := masked_f (f := notF k) hs
            have hn := masked_len (f := notF k) (l := b) (i := i)
            generalize masked (notF k) (b.take i) = L at *
            rw [en] at ht hf
            have hAL : (A ++ L).length ≤ 200000000 := by rw [List.length_append]; omega
            repeat' (first | (refine fv_sl ?_) | (refine fh_ob ?_) | (refine (eqv_rfl ?_ : eqv (bits _ _ _ _) _)) | ((refine o_app rfl rfl rfl rfl rfl rfl rfl rfl rfl rfl rfl (by rw [List.length_map]; omega) (by rw [List.length_map]; omega) ?_)) | refine o1 ?_ | refine o2 ?_ | refine k1 ?_ | refine k2 ?_ | refine k3 ?_ | refine k4 ?_ | refine k6 ?_ | refine k7 ?_ | refine k8 ?_ | refine And.intro ?_ ?_ | exact trivial | refine o3 ?_ | refine o4 ?_ | refine o5 ?_ | refine o6 ?_ | refine k5 ?_ | (intro h; first | exact Bool.noConfusion h | exact nz _ h | exact nl h | (simp at h; done) | (simp at h; first | (exfalso; omega) | skip) | skip) | (change retOk _ _ _ _; refine ret_pure rfl trivial ?_) | exact (rfl : allOne _ = true) | (refine (?_ : (0 : Int) ≤ _); omega) | (refine (?_ : _ ≠ _); omega) | (refine (?_ : srcLen _ = rowsLen _); rfl) | exact Nat.le_of_ble_eq_true rfl | exact (by kernel_rfl : drawOk _ _ = true) | refine eqv_len_map ?_ | refine eqv_size ?_ | refine eqv_put (eqv_ck ?_) | refine eqv_zero ?_ | refine eqv_wrap (by omega) (by omega) ?_ | refine eqv_u64 (by omega) (by omega) ?_ | refine eqv_u8 (by omega) (by omega) ?_ | refine eqv_to _ (set_map rfl rfl) ?_ | refine ⟨_, _, (by first | rfl | assumption), at_map (by assumption), ?_⟩ | refine ⟨_, _, (by first | rfl | assumption), (by assumption), ?_⟩ | refine ⟨_, at_map (by assumption), (by decide), ?_⟩ | refine ⟨_, at_map (by assumption), ?_⟩ | (refine (?_ : _ ≤ 140737488355328); simp [rowsLen] <;> omega) | (refine (?_ : _ ≤ 9223372036854775807); simp [rowsLen] <;> omega) | (refine (?_ : _ = rowsLen _); simp [rowsLen] <;> omega) | refine eqv_to _ (app_row rfl) (eqv_to _ app_len ?_) | refine eqv_to _ (app_first rfl) (eqv_to 1 rfl ?_) | refine idx_sl (at_map (by assumption)) (by omega) ?_ | refine idx_ms _ (by first | rfl | assumption) (by first | assumption | omega) ?_ | fail)
            · refine ⟨i + 1, hlt, by omega, ?_⟩
              rw [ht h, ← List.append_assoc, map_snoc, sl_app, ob_app]
              exact back [3] rfl rfl (by repeat' (first | exact trivial | exact rfl | exact ren_get rfl | refine kept_ob rfl ?_ | exact ⟨_, rfl, ALe.refl⟩ | refine And.intro ?_ ?_)) (by repeat' (first | exact trivial | exact rfl | exact ren_get rfl | refine kept_ob rfl ?_ | exact ⟨_, rfl, ALe.refl⟩ | refine And.intro ?_ ?_))
            · refine ⟨i + 1, hlt, by omega, ?_⟩
              rw [hf h]
              exact back [0] rfl rfl (by repeat' (first | exact trivial | exact rfl | exact ren_get rfl | refine kept_ob rfl ?_ | exact ⟨_, rfl, ALe.refl⟩ | refine And.intro ?_ ?_)) (by repeat' (first | exact trivial | exact rfl | exact ren_get rfl | refine kept_ob rfl ?_ | exact ⟨_, rfl, ALe.refl⟩ | refine And.intro ?_ ?_))
          · obtain rfl : i = b.length := by omega
            rw [List.take_length]
            generalize A ++ masked (notF k) b = M at *
            repeat' (first | (refine fv_sl ?_) | (refine fh_ob ?_) | ((change vcFun _ _ [_, _] _ _; refine call_slF rfl hn ?_; intro H' hl')) | ((change forceH H' _; refine forceH_in ?_)) | refine o1 ?_ | refine o2 ?_ | refine k1 ?_ | refine k2 ?_ | refine k3 ?_ | refine k4 ?_ | refine k6 ?_ | refine k7 ?_ | refine k8 ?_ | refine And.intro ?_ ?_ | exact trivial | refine o3 ?_ | refine o4 ?_ | refine o5 ?_ | refine o6 ?_ | refine k5 ?_ | (intro h; first | exact Bool.noConfusion h | exact nz _ h | exact nl h | (simp at h; done) | (simp at h; first | (exfalso; omega) | skip) | skip) | (change retOk _ _ _ _; refine ret_pure rfl trivial ?_) | exact (rfl : allOne _ = true) | (refine (?_ : (0 : Int) ≤ _); omega) | (refine (?_ : _ ≠ _); omega) | (refine (?_ : srcLen _ = rowsLen _); rfl) | exact Nat.le_of_ble_eq_true rfl | exact (by kernel_rfl : drawOk _ _ = true) | refine eqv_len_map ?_ | refine eqv_size ?_ | refine eqv_put (eqv_ck ?_) | refine eqv_zero ?_ | refine eqv_wrap (by omega) (by omega) ?_ | refine eqv_u64 (by omega) (by omega) ?_ | refine eqv_u8 (by omega) (by omega) ?_ | refine eqv_to _ (set_map rfl rfl) ?_ | refine ⟨_, _, (by first | rfl | assumption), at_map (by assumption), ?_⟩ | refine ⟨_, _, (by first | rfl | assumption), (by assumption), ?_⟩ | refine ⟨_, at_map (by assumption), (by decide), ?_⟩ | refine ⟨_, at_map (by assumption), ?_⟩ | (refine (?_ : _ ≤ 140737488355328); simp [rowsLen] <;> omega) | (refine (?_ : _ ≤ 9223372036854775807); simp [rowsLen] <;> omega) | (refine (?_ : _ = rowsLen _); simp [rowsLen] <;> omega) | refine eqv_to _ (app_row rfl) (eqv_to _ app_len ?_) | refine eqv_to _ (app_first rfl) (eqv_to 1 rfl ?_) | refine idx_sl (at_map (by assumption)) (by omega) ?_ | refine idx_ms _ (by first | rfl | assumption) (by first | assumption | omega) ?_ | fail)
            all_goals first
              | exact ⟨ALe.refl⟩
    · obtain ⟨g1, g2⟩ := sp2 (k := k) h0 h1
      rw [h0] at hva
      rw [g1]
      generalize validE b w = E at *
      refine acall_of tok mixed 91 rfl (fn := Tryd.f10) (c := Tryd.f10.body.getD .skip) (by kernel_rfl) (by kernel_rfl) (by kernel_rfl) rfl 0 rfl ?_
      repeat' (first | refine o1 ?_ | refine o2 ?_ | refine k1 ?_ | refine k2 ?_ | refine k3 ?_ | refine k4 ?_ | refine k6 ?_ | refine k7 ?_ | refine k8 ?_ | refine And.intro ?_ ?_ | exact trivial | refine o3 ?_ | refine o4 ?_ | refine o5 ?_ | refine o6 ?_ | refine k5 ?_ | (intro h; first | exact Bool.noConfusion h | exact nz _ h | exact nl h | (simp at h; done) | (simp at h; first | (exfalso; omega) | skip) | skip) | (change retOk _ _ _ _; refine ret_pure rfl trivial ?_) | exact (rfl : allOne _ = true) | (refine (?_ : (0 : Int) ≤ _); omega) | (refine (?_ : _ ≠ _); omega) | (refine (?_ : srcLen _ = rowsLen _); rfl) | exact Nat.le_of_ble_eq_true rfl | exact (by kernel_rfl : drawOk _ _ = true) | refine eqv_len_map ?_ | refine eqv_size ?_ | refine eqv_put (eqv_ck ?_) | refine eqv_zero ?_ | refine eqv_wrap (by omega) (by omega) ?_ | refine eqv_u64 (by omega) (by omega) ?_ | refine eqv_u8 (by omega) (by omega) ?_ | refine eqv_to _ (set_map rfl rfl) ?_ | refine ⟨_, _, (by first | rfl | assumption), at_map (by assumption), ?_⟩ | refine ⟨_, _, (by first | rfl | assumption), (by assumption), ?_⟩ | refine ⟨_, at_map (by assumption), (by decide), ?_⟩ | refine ⟨_, at_map (by assumption), ?_⟩ | (refine (?_ : _ ≤ 140737488355328); simp [rowsLen] <;> omega) | (refine (?_ : _ ≤ 9223372036854775807); simp [rowsLen] <;> omega) | (refine (?_ : _ = rowsLen _); simp [rowsLen] <;> omega) | refine eqv_to _ (app_row rfl) (eqv_to _ app_len ?_) | refine eqv_to _ (app_first rfl) (eqv_to 1 rfl ?_) | refine idx_sl (at_map (by assumption)) (by omega) ?_ | refine idx_ms _ (by first | rfl | assumption) (by first | assumption | omega) ?_ | (change vcFun _ _ _ _ _; refine call_eq rfl (by repeat' (first | trivial | refine And.intro ?_ ?_ | (show 0 + _ ≤ List.length _; simp))) ALeL.refl (hva) rfl ?_) | (change vcFun _ _ _ _ _; refine call_eq rfl (by repeat' (first | trivial | refine And.intro ?_ ?_ | (show 0 + _ ≤ List.length _; simp))) ALeL.refl (hvb) rfl ?_) | fail)
      all_goals exact leq_nil g2 rfl
  · obtain ⟨g1, g2⟩ := sp1 (b := b) (k := k) h0
    rw [g1]
    generalize validE a w = E at *
    refine acall_of tok mixed 91 rfl (fn := Tryd.f10) (c := Tryd.f10.body.getD .skip) (by kernel_rfl) (by kernel_rfl) (by kernel_rfl) rfl 0 rfl ?_
    repeat' (first | refine o1 ?_ | refine o2 ?_ | refine k1 ?_ | refine k2 ?_ | refine k3 ?_ | refine k4 ?_ | refine k6 ?_ | refine k7 ?_ | refine k8 ?_ | refine And.intro ?_ ?_ | exact trivial | refine o3 ?_ | refine o4 ?_ | refine o5 ?_ | refine o6 ?_ | refine k5 ?_ | (intro h; first | exact Bool.noConfusion h | exact nz _ h | exact nl h | (simp at h; done) | (simp at h; first | (exfalso; omega) | skip) | skip) | (change retOk _ _ _ _; refine ret_pure rfl trivial ?_) | exact (rfl : allOne _ = true) | (refine (?_ : (0 : Int) ≤ _); omega) | (refine (?_ : _ ≠ _); omega) | (refine (?_ : srcLen _ = rowsLen _); rfl) | exact Nat.le_of_ble_eq_true rfl | exact (by kernel_rfl : drawOk _ _ = true) | refine eqv_len_map ?_ | refine eqv_size ?_ | refine eqv_put (eqv_ck ?_) | refine eqv_zero ?_ | refine eqv_wrap (by omega) (by omega) ?_ | refine eqv_u64 (by omega) (by omega) ?_ | refine eqv_u8 (by omega) (by omega) ?_ | refine eqv_to _ (set_map rfl rfl) ?_ | refine ⟨_, _, (by first | rfl | assumption), at_map (by assumption), ?_⟩ | refine ⟨_, _, (by first | rfl | assumption), (by assumption), ?_⟩ | refine ⟨_, at_map (by assumption), (by decide), ?_⟩ | refine ⟨_, at_map (by assumption), ?_⟩ | (refine (?_ : _ ≤ 140737488355328); simp [rowsLen] <;> omega) | (refine (?_ : _ ≤ 9223372036854775807); simp [rowsLen] <;> omega) | (refine (?_ : _ = rowsLen _); simp [rowsLen] <;> omega) | refine eqv_to _ (app_row rfl) (eqv_to _ app_len ?_) | refine eqv_to _ (app_first rfl) (eqv_to 1 rfl ?_) | refine idx_sl (at_map (by assumption)) (by omega) ?_ | refine idx_ms _ (by first | rfl | assumption) (by first | assumption | omega) ?_ | (change vcFun _ _ _ _ _; refine call_eq rfl (by repeat' (first | trivial | refine And.intro ?_ ?_ | (show 0 + _ ≤ List.length _; simp))) ALeL.refl (hva) rfl ?_) | fail)
    all_goals exact leq_nil g2 rfl
theorem c_splice (a b : List Sess) (w k : Int) (ha : a.length ≤ 100000000) (hb : b.length ≤ 100000000) : PCall Tryd.prog 10 [.pv (encSess a), .pv (encSess b), vint .i64 w, vint .i64 k] (fun r => r = .tup [.pv (encSess (splV a b w k)), vint .i64 (splE a b w k)]) := (c_splice0 a b w k ha hb).weak fun r k => ⟨_, k.le, rfl⟩
end Go.Proofs.YtbcacaodfpgflaaDoor.Cw
