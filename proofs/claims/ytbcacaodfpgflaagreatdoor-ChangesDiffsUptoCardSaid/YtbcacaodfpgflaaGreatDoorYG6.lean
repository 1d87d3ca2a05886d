/-
  Part 6 of the proof (P6, YA, P7, Y2, P8, Y3, P9, P12, Y4): what later parts use. No conditions.
-/
import Derived.Test.YtbcacaodfpgflaaGreatDoorYG5

/-
  Contracts: sessions put in order; the normal form, by the program.
-/
namespace Go.Proofs.YtbcacaodfpgflaaGreatDoor.Cw
open Go Go.Cw Go.Proofs
set_option linter.unusedVariables false
set_option maxRecDepth 100000
set_option maxHeartbeats 8000000

/-- A row read back. -/
def unrow : List PV → Sess
  | [.val (.string c), .val (.int _ w), .val (.int _ d), .val (.int _ s), .val (.int _ l), .val (.string r)] => ⟨c, ⟨w, d, s, l⟩, r⟩
  | _ => zeroS
def ordC (x y : List PV) : Int := ordI (unrow x) (unrow y)
/-- A session is joined to a list: its place, if there is a place. -/
theorem join_at34 {s : Sess} : ∀ {L : List Sess}, (idxB (fun t => pB (alikeP s t)) L = -1 ∧ joinOne L s = L ++ [s]) ∨ ∃ (k : Nat) (t : Sess), idxB (fun t => pB (alikeP s t)) L = k ∧ L[k]? = some t ∧ joinOne L s = L.set k (orW t s)
  | [] => .inl ⟨rfl, rfl⟩
  | t :: L => by
    by_cases h : alikeP t s
    · refine .inr ⟨0, t, ?_, rfl, ?_⟩
      · exact idxB_at (fun j hj => by omega) rfl (pB_t (alike_comm.1 h))
      · unfold joinOne; rw [if_pos (pB_t h)]; rfl
    · have hf : pB (alikeP s t) = false := pB_f fun k => h (alike_comm.1 k)
      rcases join_at34 (s := s) (L := L) with ⟨h1, h2⟩ | ⟨k, u, h1, h2, h3⟩
      · refine .inl ⟨?_, by unfold joinOne; rw [if_neg (by rw [pB_f h]; simp), h2]; rfl⟩
        refine idxB_none fun j hj y hy => ?_
        cases j with
        | zero => simp at hy; subst hy; exact hf
        | succ j =>
          have hy : L[j]? = some y := by simpa using hy
          cases hq : pB (alikeP s y)
          · rfl
          · exfalso
            have hfi : L.findIdx? (fun t => pB (alikeP s t)) ≠ none := fun e => by
              have := List.findIdx?_eq_none_iff.1 e y (List.mem_of_getElem? hy)
              rw [hq] at this; cases this
            unfold idxB at h1
            cases e : L.findIdx? (fun t => pB (alikeP s t)) with
            | none => exact hfi e
            | some i => rw [e] at h1; simp only at h1; omega
      · refine .inr ⟨k + 1, u, ?_, by simpa using h2, by unfold joinOne; rw [if_neg (by rw [pB_f h]; simp), h3]; rfl⟩
        unfold idxB at h1 ⊢
        rw [List.findIdx?_cons, hf]
        cases e : L.findIdx? (fun t => pB (alikeP s t)) with
        | none => rw [e] at h1; simp only at h1; omega
        | some i => rw [e] at h1; simp only at h1; simp; omega
theorem joined_succ {l : List Sess} {i : Nat} {s : Sess} (h : l[i]? = some s) : joinedV (l.take (i + 1)) = joinOne (joinedV (l.take i)) s := by
  unfold joinedV; rw [take_snoc h, List.foldl_append]; rfl
theorem join_len {L : List Sess} {s : Sess} : (joinOne L s).length ≤ L.length + 1 := by
  rcases join_at34 (s := s) (L := L) with ⟨-, h⟩ | ⟨k, t, -, -, h⟩
  · rw [h, List.length_append]; simp
  · rw [h, List.length_set]; omega
theorem joined_len {l : List Sess} : ∀ {i : Nat}, (joinedV (l.take i)).length ≤ i
  | 0 => by simp [joinedV]
  | i + 1 => by
    have ih := joined_len (l := l) (i := i)
    rcases Nat.lt_or_ge i l.length with hlt | hge
    · obtain ⟨s, hs⟩ := getE hlt
      have := join_len (L := joinedV (l.take i)) (s := s)
      rw [joined_succ hs]; omega
    · rw [List.take_of_length_le (by omega)] at *; omega
def normA (l : List Sess) (w : Int) (V : List Sess) (E : Int) : AV := .tup [.pv (encSess V), vint .i64 E]
section
variable {l : List Sess} {w : Int}
theorem nf3 (h : w < 1 ∨ 20 < w) : normE l w = 3 ∧ normV l w = [] := by
  have e : normE l w = 3 := if_pos h
  exact ⟨e, by unfold normV; rw [e]; rfl⟩
theorem nf_s (hw : 1 ≤ w ∧ w ≤ 20) {i : Nat} (h0 : ∀ j, j < i → sessAt l w j = 0) (hi : i < l.length) (h : sessAt l w i ≠ 0) : normE l w = sessAt l w i ∧ normV l w = [] := by
  have e : singE l w = sessAt l w i := firstE_at h0 h hi
  have e2 : normE l w = sessAt l w i := by unfold normE; rw [if_neg (by omega), if_pos (by rw [e]; exact h), e]
  exact ⟨e2, by unfold normV; rw [e2, if_neg h]⟩
theorem nf_d (hw : 1 ≤ w ∧ w ≤ 20) (hs : singE l w = 0) (h : ¬ apartQ meetP34 (joinedV l)) : normE l w = 11 ∧ normV l w = [] := by
  have e : normE l w = 11 := by unfold normE; rw [if_neg (by omega), if_neg (by simp [hs]), if_neg (by rw [pB_f h]; simp)]
  exact ⟨e, by unfold normV; rw [e]; rfl⟩
theorem nf_2 (hw : 1 ≤ w ∧ w ≤ 20) (hs : singE l w = 0) (h : apartQ meetP34 (joinedV l)) (hn : 96 < (joinedV l).length) : normE l w = 2 ∧ normV l w = [] := by
  have e : normE l w = 2 := by unfold normE; rw [if_neg (by omega), if_neg (by simp [hs]), if_pos (pB_t h), if_pos hn]
  exact ⟨e, by unfold normV; rw [e]; rfl⟩
theorem nf_0 (hw : 1 ≤ w ∧ w ≤ 20) (hs : singE l w = 0) (h : apartQ meetP34 (joinedV l)) (hn : (joinedV l).length ≤ 96) : normE l w = 0 ∧ normV l w = ordV (joinedV l) := by
  have e : normE l w = 0 := by unfold normE; rw [if_neg (by omega), if_neg (by simp [hs]), if_pos (pB_t h), if_neg (by omega)]
  exact ⟨e, by unfold normV; rw [if_pos e]⟩
end
theorem leq_nil {V : List Sess} {E E' : Int} (hv : V = []) (he : E' = E) : Leq (.tup [.pv (.val (.slice none 0 0)), .pv (.val (.int .i64 E))]) (.tup [.pv (encSess V), vint .i64 E']) := by
  subst hv; subst he
  exact ⟨ALe.tup ⟨ALe.pv PLe.nil, ALe.refl, trivial⟩⟩
theorem sl_ne {id z : Nat} {α : Type} {f : α → List PV} {L : List α} (h : L ≠ []) {n : Nat} (hn : L.length = n) : slP id z (L.map f) = .ms id z 0 n := by
  subst hn
  cases L with
  | nil => exact absurd rfl h
  | cons a l => simp [slP]
theorem ob_ne {ty z : Nat} {α : Type} {f : α → List PV} {L : List α} (h : L ≠ []) : obP ty z (L.map f) = some ⟨ty, z, false, .p (L.map f)⟩ := by
  cases L with
  | nil => exact absurd rfl h
  | cons a l => rfl
end Go.Proofs.YtbcacaodfpgflaaGreatDoor.Cw

/-
  A whole list is appended to a slice that grows.
-/
namespace Go.Proofs.YtbcacaodfpgflaaGreatDoor.Cw
open Go Go.Cw Go.Proofs
set_option linter.unusedVariables false

section
variable {P : Program} {T : Tab} {id z ty : Nat} {rows ys : List (List PV)}
theorem st_appL {site b size bytes : Nat} {agg eagg : Bool} {zero ezero : List PV} {etk : TK} {s x : Operand} {t : TypeId} {d : Tmp} {Γ : Slots} {H : Heap} {K : Slots → Heap → Prop} (hs : ev Γ s = some (slP id z rows)) (hx : ev Γ x = some (.pv (.sl z ys))) (hl : Cw.look T t = some ⟨size, bytes, agg, .slice ty, zero⟩) (he : Cw.look T ty = some ⟨z, b, eagg, etk, ezero⟩) (hz : Nat.blt 0 z = true)
    (ho : H[id]? = some (obP ty z rows)) (hsite : H[site]? = some none) (hb : (rows.length + ys.length) * b ≤ 140737488355328) (hn : rows.length + ys.length ≤ 9223372036854775807)
    (h : forceH (app H [(id, none), (site, obP ty z (rows ++ ys))]) fun H2 => K ((d, slP site z (rows ++ ys)) :: Γ) H2) :
    vcStep P T site (some d) (.call { callee := .builtin .append, args := #[s, x], argTypes := #[t, t] }) Γ H K := by
  have hbq : Nat.beq t t = true := Nat.beq_refl t
  have hzz : Nat.beq z z = true := Nat.beq_refl z
  have hty : Nat.beq ty ty = true := Nat.beq_refl ty
  rw [forceH_eq] at h
  cases rows with
  | nil =>
    rw [app_none ho] at h
    simp only [vcStep, vcOp, hbq, hs, hx, vcAppend, hl, he, srcOk, hzz, hz, srcRows, Bool.and_self, Bool.true_and, slP, nilA, eqv_eq, putK, forceV, appK, forceH_eq]
    cases ys with
    | nil =>
      have e : app H [(site, obP ty z ([] ++ []))] = H := by
        show H.set site none = H
        apply List.ext_getElem?
        intro k
        rw [List.getElem?_set]
        by_cases e : site = k
        · subst e
          rw [if_pos rfl, if_pos (List.getElem?_eq_some_iff.1 hsite).1, hsite]
        · rw [if_neg e]
      rw [e] at h
      exact ⟨rfl, by simp [rowsLen], by simp [rowsLen], fun e => by simp [rowsLen] at e, fun _ => h⟩
    | cons a l =>
      refine ⟨rfl, by simpa [rowsLen] using hb, by simpa [rowsLen] using hn, fun _ => ?_, fun e => by simp [rowsLen] at e⟩
      exact h
  | cons a l =>
    simp only [vcStep, vcOp, hbq, hs, hx, vcAppend, hl, he, srcOk, hzz, hz, srcRows, ho, obP, Bool.and_self, Bool.true_and, slP, eqv_eq, putK, forceV, appK, forceH_eq, Bool.not_false, hty, dropR, catRows, List.drop_zero]
    have el : rowsLen (.p (a :: l ++ ys)) = (a :: l).length + ys.length := by simp only [rowsLen, List.length_append]
    refine ⟨by simp [rowsLen], rfl, by rw [el]; exact hb, by rw [el]; exact hn, ?_⟩
    have e : rowsLen (.p (a :: l ++ ys)) = (a :: (l ++ ys)).length := by simp [rowsLen]
    rw [e]
    exact h
theorem o_appL {n site b size bytes : Nat} {agg eagg : Bool} {zero ezero : List PV} {etk : TK} {s x : Operand} {t : TypeId} {d : Tmp} {Γ : Slots} {H : Heap} {K : Slots → Heap → Prop} {o : Oper} {all l : List Oper} {dc : Known}
    (hop : o.op = .call { callee := .builtin .append, args := #[s, x], argTypes := #[t, t] }) (hg : o.guard = none) (hd : o.dst = some d) (hdn : Nat.blt d n = true) (hs : ev Γ s = some (slP id z rows)) (hx : ev Γ x = some (.pv (.sl z ys))) (hl : Cw.look T t = some ⟨size, bytes, agg, .slice ty, zero⟩) (he : Cw.look T ty = some ⟨z, b, eagg, etk, ezero⟩) (hz : Nat.blt 0 z = true)
    (ho : H[id]? = some (obP ty z rows)) (hsite : H[site]? = some none) (hb : (rows.length + ys.length) * b ≤ 140737488355328) (hn : rows.length + ys.length ≤ 9223372036854775807)
    (h : knOut dc d fun d2 => forceH (app H [(id, none), (site, obP ty z (rows ++ ys))]) fun H2 => xOps P T n all l (site + 1) K d2 ((d, slP site z (rows ++ ys)) :: Γ) H2) :
    xOps P T n all (o :: l) site K dc Γ H := by
  refine ops_cons ?_
  have e1 : dstOk n o = true := by unfold dstOk; rw [hd]; exact hdn
  have e2 : isAlloc o.op = true := by rw [hop]; rfl
  rw [e1, e2]
  show vcGuard all Γ dc o.guard _ _
  rw [hg]
  simp only [vcGuard, knPut, hd, hop, knRes, simpOp]
  exact knOut_mono dc _ _ (fun d2 hh => st_appL hs hx hl he hz ho hsite hb hn hh) h
end
end Go.Proofs.YtbcacaodfpgflaaGreatDoor.Cw

/-
  Contracts: the normal form, by the reference.
-/
namespace Go.Proofs.YtbcacaodfpgflaaGreatDoor.Cw
open Go Go.Cw Go.Proofs
set_option linter.unusedVariables false
set_option maxRecDepth 100000
set_option maxHeartbeats 8000000

theorem join_first {s : Sess} : ∀ {L : List Sess} {k : Nat} {t : Sess}, (∀ q : Nat, q < k → ∀ y, L[q]? = some y → ¬ alikeP y s) → L[k]? = some t → alikeP t s → joinOne L s = L.set k (orW t s)
  | [], k, t, _, h, _ => by simp at h
  | u :: L, 0, t, _, h, ha => by
    have h : u = t := by simpa using h
    subst h
    unfold joinOne; rw [if_pos (pB_t ha)]; rfl
  | u :: L, k + 1, t, h0, h, ha => by
    unfold joinOne
    rw [if_neg (by rw [pB_f (h0 0 (Nat.succ_pos _) u rfl)]; simp), join_first (L := L) (k := k) (t := t) (fun q hq y hy => h0 (q + 1) (by omega) y (by simpa using hy)) (by simpa using h) ha]
    rfl
theorem join_new {s : Sess} : ∀ {L : List Sess}, (∀ q : Nat, q < L.length → ∀ y, L[q]? = some y → ¬ alikeP y s) → joinOne L s = L ++ [s]
  | [], _ => rfl
  | u :: L, h0 => by
    unfold joinOne
    rw [if_neg (by rw [pB_f (h0 0 (Nat.succ_pos _) u rfl)]; simp), join_new fun q hq y hy => h0 (q + 1) (by simpa using hq) y (by simpa using hy)]
    rfl
theorem c_joined0 (l : List Sess) (hl : l.length ≤ 1000000000) : PCall Tryz.prog 49 [.pv (encSess l)] (fun r => Leq r (.pv (encSess (joinedV l)))) := by
  refine acall_of tok mixed 58 rfl (fn := Tryz.f49) (c := Tryz.f49.body.getD .skip) (by kernel_rfl) (by kernel_rfl) (by kernel_rfl) rfl 0 rfl ?_
  repeat' (first | refine o1 ?_ | refine o2 ?_ | refine k1 ?_ | refine k2 ?_ | refine k3 ?_ | refine k4 ?_ | refine k6 ?_ | refine k7 ?_ | refine k8 ?_ | refine And.intro ?_ ?_ | exact trivial | refine o3 ?_ | refine o4 ?_ | refine o5 ?_ | refine o6 ?_ | refine k5 ?_ | (intro h; first | exact Bool.noConfusion h | exact nz _ h | exact nl h | (simp at h; done) | (simp at h; first | (exfalso; omega) | skip) | skip) | (change retOk _ _ _ _; refine ret_pure rfl trivial ?_) | exact (rfl : allOne _ = true) | (refine (?_ : (0 : Int) ≤ _); omega) | (refine (?_ : _ ≠ _); omega) | (refine (?_ : srcLen _ = rowsLen _); rfl) | exact Nat.le_of_ble_eq_true rfl | exact (by kernel_rfl : drawOk _ _ = true) | refine eqv_len_map ?_ | refine eqv_size ?_ | refine eqv_put (eqv_ck ?_) | refine eqv_zero ?_ | refine eqv_wrap (by omega) (by omega) ?_ | refine eqv_u64 (by omega) (by omega) ?_ | refine eqv_u8 (by omega) (by omega) ?_ | refine eqv_to _ (set_map rfl rfl) ?_ | refine ⟨_, _, (by first | rfl | assumption), at_map (by assumption), ?_⟩ | refine ⟨_, _, (by first | rfl | assumption), (by assumption), ?_⟩ | refine ⟨_, at_map (by assumption), (by decide), ?_⟩ | refine ⟨_, at_map (by assumption), ?_⟩ | (refine (?_ : _ ≤ 140737488355328); simp [rowsLen] <;> omega) | (refine (?_ : _ ≤ 9223372036854775807); simp [rowsLen] <;> omega) | (refine (?_ : _ = rowsLen _); simp [rowsLen] <;> omega) | refine eqv_to _ (app_row rfl) (eqv_to _ app_len ?_) | refine eqv_to _ (app_first rfl) (eqv_to 1 rfl ?_) | refine idx_sl (at_map (by assumption)) (by omega) ?_ | refine idx_ms _ (by first | rfl | assumption) (by first | assumption | omega) ?_ | fail)
  refine loop_for (fun i : Nat => [(0, .pv (encSess l)), (3, slP 0 6 ((joinedV (l.take i)).map Sess.row)), (4, vint .i64 i)]) (fun i => [obP 51 6 ((joinedV (l.take i)).map Sess.row)]) (fun i => i ≤ l.length) (fun i => l.length - i) 0 (Nat.zero_le _) ?_ ?_
  · exact back [0] rfl rfl (by repeat' (first | exact trivial | exact rfl | exact ren_get rfl | refine kept_ob rfl ?_ | exact ⟨_, rfl, ALe.refl⟩ | refine And.intro ?_ ?_)) (by repeat' (first | exact trivial | exact rfl | exact ren_get rfl | refine kept_ob rfl ?_ | exact ⟨_, rfl, ALe.refl⟩ | refine And.intro ?_ ?_))
  intro i hi
  rcases Nat.lt_or_ge i l.length with hlt | hge
  · obtain ⟨s, hs⟩ := getE hlt
    have hjs := joined_succ hs
    have hjl := joined_len (l := l) (i := i)
    generalize joinedV (l.take i) = L at *
    by_cases hL : L = []
    · subst hL
      have hn : joinOne [] s = [] ++ [s] := rfl
      repeat' (first | (refine fv_sl ?_) | (refine fh_ob ?_) | refine o1 ?_ | refine o2 ?_ | refine k1 ?_ | refine k2 ?_ | refine k3 ?_ | refine k4 ?_ | refine k6 ?_ | refine k7 ?_ | refine k8 ?_ | refine And.intro ?_ ?_ | exact trivial | refine o3 ?_ | refine o4 ?_ | refine o5 ?_ | refine o6 ?_ | refine k5 ?_ | (intro h; first | exact Bool.noConfusion h | exact nz _ h | exact nl h | (simp at h; done) | (simp at h; first | (exfalso; omega) | skip) | skip) | (change retOk _ _ _ _; refine ret_pure rfl trivial ?_) | exact (rfl : allOne _ = true) | (refine (?_ : (0 : Int) ≤ _); omega) | (refine (?_ : _ ≠ _); omega) | (refine (?_ : srcLen _ = rowsLen _); rfl) | exact Nat.le_of_ble_eq_true rfl | exact (by kernel_rfl : drawOk _ _ = true) | refine eqv_len_map ?_ | refine eqv_size ?_ | refine eqv_put (eqv_ck ?_) | refine eqv_zero ?_ | refine eqv_wrap (by omega) (by omega) ?_ | refine eqv_u64 (by omega) (by omega) ?_ | refine eqv_u8 (by omega) (by omega) ?_ | refine eqv_to _ (set_map rfl rfl) ?_ | refine ⟨_, _, (by first | rfl | assumption), at_map (by assumption), ?_⟩ | refine ⟨_, _, (by first | rfl | assumption), (by assumption), ?_⟩ | refine ⟨_, at_map (by assumption), (by decide), ?_⟩ | refine ⟨_, at_map (by assumption), ?_⟩ | (refine (?_ : _ ≤ 140737488355328); simp [rowsLen] <;> omega) | (refine (?_ : _ ≤ 9223372036854775807); simp [rowsLen] <;> omega) | (refine (?_ : _ = rowsLen _); simp [rowsLen] <;> omega) | refine eqv_to _ (app_row rfl) (eqv_to _ app_len ?_) | refine eqv_to _ (app_first rfl) (eqv_to 1 rfl ?_) | refine idx_sl (at_map (by assumption)) (by omega) ?_ | refine idx_ms _ (by first | rfl | assumption) (by first | assumption | omega) ?_ | fail)
      refine loop_for (fun u : Nat => [(0, .pv (encSess l)), (3, nilA), (4, vint .i64 i), (5, vint .i64 0)]) (fun _ => []) (fun _ => True) (fun _ => 0) 0 trivial ?_ ?_
      · exact back [] rfl rfl trivial (by repeat' (first | exact trivial | exact rfl | exact ren_get rfl | refine kept_ob rfl ?_ | exact ⟨_, rfl, ALe.refl⟩ | refine And.intro ?_ ?_))
      intro u _
      repeat' (first | (refine idx_sl (k := i) (at_map hs) (by omega) ?_) | refine o1 ?_ | refine o2 ?_ | refine k1 ?_ | refine k2 ?_ | refine k3 ?_ | refine k4 ?_ | refine k6 ?_ | refine k7 ?_ | refine k8 ?_ | refine And.intro ?_ ?_ | exact trivial | refine o3 ?_ | refine o4 ?_ | refine o5 ?_ | refine o6 ?_ | refine k5 ?_ | (intro h; first | exact Bool.noConfusion h | exact nz _ h | exact nl h | (simp at h; done) | (simp at h; first | (exfalso; omega) | skip) | skip) | (change retOk _ _ _ _; refine ret_pure rfl trivial ?_) | exact (rfl : allOne _ = true) | (refine (?_ : (0 : Int) ≤ _); omega) | (refine (?_ : _ ≠ _); omega) | (refine (?_ : srcLen _ = rowsLen _); rfl) | exact Nat.le_of_ble_eq_true rfl | exact (by kernel_rfl : drawOk _ _ = true) | refine eqv_len_map ?_ | refine eqv_size ?_ | refine eqv_put (eqv_ck ?_) | refine eqv_zero ?_ | refine eqv_wrap (by omega) (by omega) ?_ | refine eqv_u64 (by omega) (by omega) ?_ | refine eqv_u8 (by omega) (by omega) ?_ | refine eqv_to _ (set_map rfl rfl) ?_ | refine ⟨_, _, (by first | rfl | assumption), at_map (by assumption), ?_⟩ | refine ⟨_, _, (by first | rfl | assumption), (by assumption), ?_⟩ | refine ⟨_, at_map (by assumption), (by decide), ?_⟩ | refine ⟨_, at_map (by assumption), ?_⟩ | (refine (?_ : _ ≤ 140737488355328); simp [rowsLen] <;> omega) | (refine (?_ : _ ≤ 9223372036854775807); simp [rowsLen] <;> omega) | (refine (?_ : _ = rowsLen _); simp [rowsLen] <;> omega) | refine eqv_to _ (app_row rfl) (eqv_to _ app_len ?_) | refine eqv_to _ (app_first rfl) (eqv_to 1 rfl ?_) | refine idx_sl (at_map (by assumption)) (by omega) ?_ | refine idx_ms _ (by first | rfl | assumption) (by first | assumption | omega) ?_ | fail)
      all_goals try (exfalso; omega)
      all_goals
        refine ⟨i + 1, hlt, by omega, ?_⟩
        rw [hjs, hn]
        exact back [1] rfl rfl (by repeat' (first | exact trivial | exact rfl | exact ren_get rfl | refine kept_ob rfl ?_ | exact ⟨_, rfl, ALe.refl⟩ | refine And.intro ?_ ?_)) (by repeat' (first | exact trivial | exact rfl | exact ren_get rfl | refine kept_ob rfl ?_ | exact ⟨_, rfl, ALe.refl⟩ | refine And.intro ?_ ?_))
    · have e1 := sl_ne (id := 0) (z := 6) (f := Sess.row) hL rfl
      have e2 := ob_ne (ty := 51) (z := 6) (f := Sess.row) hL
      rw [e1, e2]
      repeat' (first | refine o1 ?_ | refine o2 ?_ | refine k1 ?_ | refine k2 ?_ | refine k3 ?_ | refine k4 ?_ | refine k6 ?_ | refine k7 ?_ | refine k8 ?_ | refine And.intro ?_ ?_ | exact trivial | refine o3 ?_ | refine o4 ?_ | refine o5 ?_ | refine o6 ?_ | refine k5 ?_ | (intro h; first | exact Bool.noConfusion h | exact nz _ h | exact nl h | (simp at h; done) | (simp at h; first | (exfalso; omega) | skip) | skip) | (change retOk _ _ _ _; refine ret_pure rfl trivial ?_) | exact (rfl : allOne _ = true) | (refine (?_ : (0 : Int) ≤ _); omega) | (refine (?_ : _ ≠ _); omega) | (refine (?_ : srcLen _ = rowsLen _); rfl) | exact Nat.le_of_ble_eq_true rfl | exact (by kernel_rfl : drawOk _ _ = true) | refine eqv_len_map ?_ | refine eqv_size ?_ | refine eqv_put (eqv_ck ?_) | refine eqv_zero ?_ | refine eqv_wrap (by omega) (by omega) ?_ | refine eqv_u64 (by omega) (by omega) ?_ | refine eqv_u8 (by omega) (by omega) ?_ | refine eqv_to _ (set_map rfl rfl) ?_ | refine ⟨_, _, (by first | rfl | assumption), at_map (by assumption), ?_⟩ | refine ⟨_, _, (by first | rfl | assumption), (by assumption), ?_⟩ | refine ⟨_, at_map (by assumption), (by decide), ?_⟩ | refine ⟨_, at_map (by assumption), ?_⟩ | (refine (?_ : _ ≤ 140737488355328); simp [rowsLen] <;> omega) | (refine (?_ : _ ≤ 9223372036854775807); simp [rowsLen] <;> omega) | (refine (?_ : _ = rowsLen _); simp [rowsLen] <;> omega) | refine eqv_to _ (app_row rfl) (eqv_to _ app_len ?_) | refine eqv_to _ (app_first rfl) (eqv_to 1 rfl ?_) | refine idx_sl (at_map (by assumption)) (by omega) ?_ | refine idx_ms _ (by first | rfl | assumption) (by first | assumption | omega) ?_ | fail)
      refine loop_at (fun k : Nat => [(5, vint .i64 k)]) (fun _ => []) (fun k => k ≤ L.length ∧ ∀ q, q < k → ∀ y, L[q]? = some y → ¬ alikeP y s) (fun k => L.length - k) 0 ⟨Nat.zero_le _, fun q hq => by omega⟩ (by repeat' (first | exact trivial | exact rfl | exact ⟨_, rfl, ALe.refl⟩ | refine And.intro ?_ ?_)) (by repeat' (first | exact trivial | exact rfl | exact ⟨_, rfl, ALe.refl⟩ | refine And.intro ?_ ?_)) ?_
      intro k ⟨hk, hall⟩
      rcases Nat.lt_or_ge k L.length with hkl | hkg
      · obtain ⟨t, ht⟩ := getE hkl
        have hset : (L.map Sess.row).set k (splice 1 [.val (.int .i64 (bits .or .i64 t.time.weeks s.time.weeks))] t.row) = (L.set k (orW t s)).map Sess.row := by rw [List.map_set]; rfl
        repeat' (first | (refine idx_sl (k := i) (at_map hs) rfl ?_) | (refine idx_ms k rfl hkl ?_) | (refine ⟨_, at_map ht, (Nat.le_of_ble_eq_true rfl), ?_⟩) | (refine ⟨_, at_map ht, ?_⟩) | (refine (eqv_rfl ?_ : eqv (bits _ _ _ _) _)) | (refine eqv_to _ hset ?_) | refine o1 ?_ | refine o2 ?_ | refine k1 ?_ | refine k2 ?_ | refine k3 ?_ | refine k4 ?_ | refine k6 ?_ | refine k7 ?_ | refine k8 ?_ | refine And.intro ?_ ?_ | exact trivial | refine o3 ?_ | refine o4 ?_ | refine o5 ?_ | refine o6 ?_ | refine k5 ?_ | (intro h; first | exact Bool.noConfusion h | exact nz _ h | exact nl h | (simp at h; done) | (simp at h; first | (exfalso; omega) | skip) | skip) | (change retOk _ _ _ _; refine ret_pure rfl trivial ?_) | exact (rfl : allOne _ = true) | (refine (?_ : (0 : Int) ≤ _); omega) | (refine (?_ : _ ≠ _); omega) | (refine (?_ : srcLen _ = rowsLen _); rfl) | exact Nat.le_of_ble_eq_true rfl | exact (by kernel_rfl : drawOk _ _ = true) | refine eqv_len_map ?_ | refine eqv_size ?_ | refine eqv_put (eqv_ck ?_) | refine eqv_zero ?_ | refine eqv_wrap (by omega) (by omega) ?_ | refine eqv_u64 (by omega) (by omega) ?_ | refine eqv_u8 (by omega) (by omega) ?_ | refine eqv_to _ (set_map rfl rfl) ?_ | refine ⟨_, _, (by first | rfl | assumption), at_map (by assumption), ?_⟩ | refine ⟨_, _, (by first | rfl | assumption), (by assumption), ?_⟩ | refine ⟨_, at_map (by assumption), (by decide), ?_⟩ | refine ⟨_, at_map (by assumption), ?_⟩ | (refine (?_ : _ ≤ 140737488355328); simp [rowsLen] <;> omega) | (refine (?_ : _ ≤ 9223372036854775807); simp [rowsLen] <;> omega) | (refine (?_ : _ = rowsLen _); simp [rowsLen] <;> omega) | refine eqv_to _ (app_row rfl) (eqv_to _ app_len ?_) | refine eqv_to _ (app_first rfl) (eqv_to 1 rfl ?_) | refine idx_sl (at_map (by assumption)) (by omega) ?_ | refine idx_ms _ (by first | rfl | assumption) (by first | assumption | omega) ?_ | (change vcFunD _ _ _ _ _; refine callD_eq rfl (by repeat' (first | trivial | refine And.intro ?_ ?_ | (show 0 + _ ≤ List.length _; simp))) ALeL.refl (c_ralike t s) rfl ?_) | fail)
        · exact ⟨k + 1, ⟨by omega, all_lt_succ hall fun y hy => by rw [ht] at hy; cases hy; exact h⟩, by omega, back [0] rfl rfl ⟨rfl, trivial⟩ (by repeat' (first | exact trivial | exact rfl | exact ⟨_, rfl, ALe.refl⟩ | refine And.intro ?_ ?_))⟩
        · have hL2 : L.set k (orW t s) ≠ [] := fun e => hL (by have := congrArg List.length e; rw [List.length_set] at this; exact List.eq_nil_of_length_eq_zero this)
          refine ⟨i + 1, hlt, by omega, ?_⟩
          rw [hjs, join_first hall ht (by assumption), sl_ne hL2 (List.length_set ..), ob_ne hL2]
          exact back [0] rfl rfl (by repeat' (first | exact trivial | exact rfl | exact ren_get rfl | refine kept_ob rfl ?_ | exact ⟨_, rfl, ALe.refl⟩ | refine And.intro ?_ ?_)) (by repeat' (first | exact trivial | exact rfl | exact ren_get rfl | refine kept_ob rfl ?_ | exact ⟨_, rfl, ALe.refl⟩ | refine And.intro ?_ ?_))
      · repeat' (first | (refine idx_sl (k := i) (at_map hs) rfl ?_) | refine o1 ?_ | refine o2 ?_ | refine k1 ?_ | refine k2 ?_ | refine k3 ?_ | refine k4 ?_ | refine k6 ?_ | refine k7 ?_ | refine k8 ?_ | refine And.intro ?_ ?_ | exact trivial | refine o3 ?_ | refine o4 ?_ | refine o5 ?_ | refine o6 ?_ | refine k5 ?_ | (intro h; first | exact Bool.noConfusion h | exact nz _ h | exact nl h | (simp at h; done) | (simp at h; first | (exfalso; omega) | skip) | skip) | (change retOk _ _ _ _; refine ret_pure rfl trivial ?_) | exact (rfl : allOne _ = true) | (refine (?_ : (0 : Int) ≤ _); omega) | (refine (?_ : _ ≠ _); omega) | (refine (?_ : srcLen _ = rowsLen _); rfl) | exact Nat.le_of_ble_eq_true rfl | exact (by kernel_rfl : drawOk _ _ = true) | refine eqv_len_map ?_ | refine eqv_size ?_ | refine eqv_put (eqv_ck ?_) | refine eqv_zero ?_ | refine eqv_wrap (by omega) (by omega) ?_ | refine eqv_u64 (by omega) (by omega) ?_ | refine eqv_u8 (by omega) (by omega) ?_ | refine eqv_to _ (set_map rfl rfl) ?_ | refine ⟨_, _, (by first | rfl | assumption), at_map (by assumption), ?_⟩ | refine ⟨_, _, (by first | rfl | assumption), (by assumption), ?_⟩ | refine ⟨_, at_map (by assumption), (by decide), ?_⟩ | refine ⟨_, at_map (by assumption), ?_⟩ | (refine (?_ : _ ≤ 140737488355328); simp [rowsLen] <;> omega) | (refine (?_ : _ ≤ 9223372036854775807); simp [rowsLen] <;> omega) | (refine (?_ : _ = rowsLen _); simp [rowsLen] <;> omega) | refine eqv_to _ (app_row rfl) (eqv_to _ app_len ?_) | refine eqv_to _ (app_first rfl) (eqv_to 1 rfl ?_) | refine idx_sl (at_map (by assumption)) (by omega) ?_ | refine idx_ms _ (by first | rfl | assumption) (by first | assumption | omega) ?_ | fail)
        have hnew : joinOne L s = L ++ [s] := join_new fun q hq y hy => hall q (by omega) y hy
        have hL2 : L ++ [s] ≠ [] := by simp
        refine ⟨i + 1, hlt, by omega, ?_⟩
        rw [hjs, hnew, sl_ne hL2 rfl, ob_ne hL2]
        exact back [2] rfl rfl (by repeat' (first | exact trivial | exact rfl | exact ren_get rfl | refine kept_ob rfl ?_ | exact ⟨_, rfl, ALe.refl⟩ | refine And.intro ?_ ?_)) (by repeat' (first | exact trivial | exact rfl | exact ren_get rfl | refine kept_ob rfl ?_ | exact ⟨_, rfl, ALe.refl⟩ | refine And.intro ?_ ?_))
  · obtain rfl : i = l.length := by omega
    rw [List.take_length]
    repeat' (first | (refine fv_sl ?_) | (refine fh_ob ?_) | refine o1 ?_ | refine o2 ?_ | refine k1 ?_ | refine k2 ?_ | refine k3 ?_ | refine k4 ?_ | refine k6 ?_ | refine k7 ?_ | refine k8 ?_ | refine And.intro ?_ ?_ | exact trivial | refine o3 ?_ | refine o4 ?_ | refine o5 ?_ | refine o6 ?_ | refine k5 ?_ | (intro h; first | exact Bool.noConfusion h | exact nz _ h | exact nl h | (simp at h; done) | (simp at h; first | (exfalso; omega) | skip) | skip) | (change retOk _ _ _ _; refine ret_pure rfl trivial ?_) | exact (rfl : allOne _ = true) | (refine (?_ : (0 : Int) ≤ _); omega) | (refine (?_ : _ ≠ _); omega) | (refine (?_ : srcLen _ = rowsLen _); rfl) | exact Nat.le_of_ble_eq_true rfl | exact (by kernel_rfl : drawOk _ _ = true) | refine eqv_len_map ?_ | refine eqv_size ?_ | refine eqv_put (eqv_ck ?_) | refine eqv_zero ?_ | refine eqv_wrap (by omega) (by omega) ?_ | refine eqv_u64 (by omega) (by omega) ?_ | refine eqv_u8 (by omega) (by omega) ?_ | refine eqv_to _ (set_map rfl rfl) ?_ | refine ⟨_, _, (by first | rfl | assumption), at_map (by assumption), ?_⟩ | refine ⟨_, _, (by first | rfl | assumption), (by assumption), ?_⟩ | refine ⟨_, at_map (by assumption), (by decide), ?_⟩ | refine ⟨_, at_map (by assumption), ?_⟩ | (refine (?_ : _ ≤ 140737488355328); simp [rowsLen] <;> omega) | (refine (?_ : _ ≤ 9223372036854775807); simp [rowsLen] <;> omega) | (refine (?_ : _ = rowsLen _); simp [rowsLen] <;> omega) | refine eqv_to _ (app_row rfl) (eqv_to _ app_len ?_) | refine eqv_to _ (app_first rfl) (eqv_to 1 rfl ?_) | refine idx_sl (at_map (by assumption)) (by omega) ?_ | refine idx_ms _ (by first | rfl | assumption) (by first | assumption | omega) ?_ | fail)
    exact ret_sl rfl ⟨ALe.refl⟩ leq_down
theorem c_joined (l : List Sess) (hl : l.length ≤ 1000000000) : PCall Tryz.prog 49 [.pv (encSess l)] (fun r => r = .pv (encSess (joinedV l))) := (c_joined0 l hl).weak fun r k => ⟨_, k.le, rfl⟩

theorem ord_succ {l : List Sess} {i : Nat} {s : Sess} (h : l[i]? = some s) : ordV (l.take (i + 1)) = insV (ordV (l.take i)) s := by
  unfold ordV; rw [take_snoc h, List.foldl_append]; rfl
theorem insK_t {x y : Sess} {out : List Sess} {k : Nat} (h : out[k]? = some y) (hb : befP x y) : insK x out (k + 1) = insK x out k := by
  show (if pB (∃ y, out[k]? = some y ∧ befP x y) then insK x out k else k + 1) = _
  rw [if_pos (pB_t ⟨y, h, hb⟩)]
theorem insK_f {x y : Sess} {out : List Sess} {k : Nat} (h : out[k]? = some y) (hb : ¬ befP x y) : insK x out (k + 1) = k + 1 := by
  show (if pB (∃ y, out[k]? = some y ∧ befP x y) then insK x out k else k + 1) = _
  rw [if_neg]
  rw [pB_f]
  · simp
  · rintro ⟨y', h1, h2⟩; rw [h] at h1; cases h1; exact hb h2
theorem Ghost.slX {n nh s id z ty m : Nat} {Γ Γ2 : Slots} {H H2 : Heap} {X Y : List (List PV)} (h : Cw.get Γ s = some (.ms id z 0 m)) (ho : H[id]? = some (some ⟨ty, z, false, .p X⟩)) (hm : m = X.length) (hne : X ≠ []) (e : X = Y)
    (k : ∀ H' : Heap, H'.length = H.length → (∀ i : Nat, i ≠ id → H'[i]? = H[i]?) → Ghost n nh ((s, .pv (.sl z Y)) :: Γ) H' Γ2 H2) : Ghost n nh Γ H Γ2 H2 := by
  subst e; subst hm
  cases X with
  | nil => exact absurd rfl hne
  | cons a X => exact Ghost.sl (rows := a :: X) h ho k
/-- A list from a place on. -/
theorem slice_at {α : Type} {i : Nat} {f : α → List PV} {xs : List α} {K : List (List PV) → Prop} (hi : i ≤ xs.length) (hk : K ((xs.drop i).map f)) :
    ∃ (l h : Nat), loIs (some (vint .i64 i)) l ∧ hiIs none (xs.map f).length h ∧ l ≤ h ∧ h ≤ (xs.map f).length ∧ eqv (((xs.map f).take h).drop l) K := by
  refine ⟨i, (xs.map f).length, rfl, rfl, by rw [List.length_map]; exact hi, Nat.le_refl _, ⟨_, rfl, ?_⟩⟩
  rw [List.take_length, ← List.map_drop]; exact hk
theorem c_ordered0 (l : List Sess) (hl : l.length ≤ 1000000000) (hs0 : ∀ s ∈ l, setP s.time.weeks 20) : PCall Tryz.prog 48 [.pv (encSess l)] (fun r => Leq r (.pv (encSess (ordV l)))) := by
  refine acall_of tok mixed 47 rfl (fn := Tryz.f48) (c := Tryz.f48.body.getD .skip) (by kernel_rfl) (by kernel_rfl) (by kernel_rfl) rfl 0 rfl ?_
  repeat' (first | refine o1 ?_ | refine o2 ?_ | refine k1 ?_ | refine k2 ?_ | refine k3 ?_ | refine k4 ?_ | refine k6 ?_ | refine k7 ?_ | refine k8 ?_ | refine And.intro ?_ ?_ | exact trivial | refine o3 ?_ | refine o4 ?_ | refine o5 ?_ | refine o6 ?_ | refine k5 ?_ | (intro h; first | exact Bool.noConfusion h | exact nz _ h | exact nl h | (simp at h; done) | (simp at h; first | (exfalso; omega) | skip) | skip) | (change retOk _ _ _ _; refine ret_pure rfl trivial ?_) | exact (rfl : allOne _ = true) | (refine (?_ : (0 : Int) ≤ _); omega) | (refine (?_ : _ ≠ _); omega) | (refine (?_ : srcLen _ = rowsLen _); rfl) | exact Nat.le_of_ble_eq_true rfl | exact (by kernel_rfl : drawOk _ _ = true) | refine eqv_len_map ?_ | refine eqv_size ?_ | refine eqv_put (eqv_ck ?_) | refine eqv_zero ?_ | refine eqv_wrap (by omega) (by omega) ?_ | refine eqv_u64 (by omega) (by omega) ?_ | refine eqv_u8 (by omega) (by omega) ?_ | refine eqv_to _ (set_map rfl rfl) ?_ | refine ⟨_, _, (by first | rfl | assumption), at_map (by assumption), ?_⟩ | refine ⟨_, _, (by first | rfl | assumption), (by assumption), ?_⟩ | refine ⟨_, at_map (by assumption), (by decide), ?_⟩ | refine ⟨_, at_map (by assumption), ?_⟩ | (refine (?_ : _ ≤ 140737488355328); simp [rowsLen] <;> omega) | (refine (?_ : _ ≤ 9223372036854775807); simp [rowsLen] <;> omega) | (refine (?_ : _ = rowsLen _); simp [rowsLen] <;> omega) | refine eqv_to _ (app_row rfl) (eqv_to _ app_len ?_) | refine eqv_to _ (app_first rfl) (eqv_to 1 rfl ?_) | refine idx_sl (at_map (by assumption)) (by omega) ?_ | refine idx_ms _ (by first | rfl | assumption) (by first | assumption | omega) ?_ | fail)
  refine loop_for (fun i : Nat => [(0, .pv (encSess l)), (3, .pv (encSess (ordV (l.take i)))), (4, vint .i64 i)]) (fun i => []) (fun i => i ≤ l.length) (fun i => l.length - i) 0 (Nat.zero_le _) ?_ ?_
  · exact (Ghost.weak (s := 3) rfl (ALe.pv PLe.nil)).trans (back [] rfl rfl trivial (by repeat' (first | exact trivial | exact rfl | exact ren_get rfl | refine kept_ob rfl ?_ | exact ⟨_, rfl, ALe.refl⟩ | refine And.intro ?_ ?_)))
  intro i hi
  rcases Nat.lt_or_ge i l.length with hlt | hge
  · obtain ⟨s, hs⟩ := getE hlt
    have hos := ord_succ hs
    have hol := ord_len (l := l.take i)
    have hom : ∀ y ∈ ordV (l.take i), setP y.time.weeks 20 := fun y hy => hs0 y (List.mem_of_mem_take (ord_perm.subset hy))
    have hss := hs0 s (List.mem_of_getElem? hs)
    rw [List.length_take, Nat.min_eq_left hi] at hol
    generalize ordV (l.take i) = L at *
    repeat' (first | refine o1 ?_ | refine o2 ?_ | refine k1 ?_ | refine k2 ?_ | refine k3 ?_ | refine k4 ?_ | refine k6 ?_ | refine k7 ?_ | refine k8 ?_ | refine And.intro ?_ ?_ | exact trivial | refine o3 ?_ | refine o4 ?_ | refine o5 ?_ | refine o6 ?_ | refine k5 ?_ | (intro h; first | exact Bool.noConfusion h | exact nz _ h | exact nl h | (simp at h; done) | (simp at h; first | (exfalso; omega) | skip) | skip) | (change retOk _ _ _ _; refine ret_pure rfl trivial ?_) | exact (rfl : allOne _ = true) | (refine (?_ : (0 : Int) ≤ _); omega) | (refine (?_ : _ ≠ _); omega) | (refine (?_ : srcLen _ = rowsLen _); rfl) | exact Nat.le_of_ble_eq_true rfl | exact (by kernel_rfl : drawOk _ _ = true) | refine eqv_len_map ?_ | refine eqv_size ?_ | refine eqv_put (eqv_ck ?_) | refine eqv_zero ?_ | refine eqv_wrap (by omega) (by omega) ?_ | refine eqv_u64 (by omega) (by omega) ?_ | refine eqv_u8 (by omega) (by omega) ?_ | refine eqv_to _ (set_map rfl rfl) ?_ | refine ⟨_, _, (by first | rfl | assumption), at_map (by assumption), ?_⟩ | refine ⟨_, _, (by first | rfl | assumption), (by assumption), ?_⟩ | refine ⟨_, at_map (by assumption), (by decide), ?_⟩ | refine ⟨_, at_map (by assumption), ?_⟩ | (refine (?_ : _ ≤ 140737488355328); simp [rowsLen] <;> omega) | (refine (?_ : _ ≤ 9223372036854775807); simp [rowsLen] <;> omega) | (refine (?_ : _ = rowsLen _); simp [rowsLen] <;> omega) | refine eqv_to _ (app_row rfl) (eqv_to _ app_len ?_) | refine eqv_to _ (app_first rfl) (eqv_to 1 rfl ?_) | refine idx_sl (at_map (by assumption)) (by omega) ?_ | refine idx_ms _ (by first | rfl | assumption) (by first | assumption | omega) ?_ | fail)
    refine loop_at (fun k : Nat => [(5, vint .i64 k)]) (fun _ => []) (fun k => k ≤ L.length ∧ insK s L L.length = insK s L k) (fun k => k) L.length ⟨Nat.le_refl _, rfl⟩ (by repeat' (first | exact trivial | exact rfl | exact ⟨_, rfl, ALe.refl⟩ | refine And.intro ?_ ?_)) (by repeat' (first | exact trivial | exact rfl | exact ⟨_, rfl, ALe.refl⟩ | refine And.intro ?_ ?_)) ?_
    intro k ⟨hk, hki⟩
    have hend : ∀ k : Nat, k ≤ L.length → insK s L L.length = k → (L.take k).map Sess.row ++ [s.row] ++ (L.drop k).map Sess.row = (ordV (l.take (i + 1))).map Sess.row := fun k hk e => by
      rw [hos]; unfold insV; rw [e]; simp
    rcases k with _ | k
    · have he := hend 0 (Nat.zero_le _) hki
      repeat' (first | (refine slice_to (i := 0) (Nat.zero_le _) ?_) | ((refine o_appL (id := 0) (rows := []) rfl rfl rfl rfl rfl rfl rfl rfl rfl rfl rfl (by simp) (by simp) ?_)) | (refine slice_at (i := 0) (Nat.zero_le _) ?_) | (refine (eqv_rfl ?_ : eqv (Rows.p _) _)) | (refine (eqv_rfl ?_ : eqv (rowsLen _) _)) | refine o1 ?_ | refine o2 ?_ | refine k1 ?_ | refine k2 ?_ | refine k3 ?_ | refine k4 ?_ | refine k6 ?_ | refine k7 ?_ | refine k8 ?_ | refine And.intro ?_ ?_ | exact trivial | refine o3 ?_ | refine o4 ?_ | refine o5 ?_ | refine o6 ?_ | refine k5 ?_ | (intro h; first | exact Bool.noConfusion h | exact nz _ h | exact nl h | (simp at h; done) | (simp at h; first | (exfalso; omega) | skip) | skip) | (change retOk _ _ _ _; refine ret_pure rfl trivial ?_) | exact (rfl : allOne _ = true) | (refine (?_ : (0 : Int) ≤ _); omega) | (refine (?_ : _ ≠ _); omega) | (refine (?_ : srcLen _ = rowsLen _); rfl) | exact Nat.le_of_ble_eq_true rfl | exact (by kernel_rfl : drawOk _ _ = true) | refine eqv_len_map ?_ | refine eqv_size ?_ | refine eqv_put (eqv_ck ?_) | refine eqv_zero ?_ | refine eqv_wrap (by omega) (by omega) ?_ | refine eqv_u64 (by omega) (by omega) ?_ | refine eqv_u8 (by omega) (by omega) ?_ | refine eqv_to _ (set_map rfl rfl) ?_ | refine ⟨_, _, (by first | rfl | assumption), at_map (by assumption), ?_⟩ | refine ⟨_, _, (by first | rfl | assumption), (by assumption), ?_⟩ | refine ⟨_, at_map (by assumption), (by decide), ?_⟩ | refine ⟨_, at_map (by assumption), ?_⟩ | (refine (?_ : _ ≤ 140737488355328); simp [rowsLen] <;> omega) | (refine (?_ : _ ≤ 9223372036854775807); simp [rowsLen] <;> omega) | (refine (?_ : _ = rowsLen _); simp [rowsLen] <;> omega) | refine eqv_to _ (app_row rfl) (eqv_to _ app_len ?_) | refine eqv_to _ (app_first rfl) (eqv_to 1 rfl ?_) | refine idx_sl (at_map (by assumption)) (by omega) ?_ | refine idx_ms _ (by first | rfl | assumption) (by first | assumption | omega) ?_ | fail)
      all_goals
        refine ⟨i + 1, hlt, by omega, ?_⟩
        refine Ghost.slX (s := 3) (id := 3) rfl rfl rfl (fun e => by cases e) he fun H' hl hH => back [] rfl rfl trivial (by repeat' (first | exact trivial | exact rfl | exact ren_get rfl | refine kept_ob rfl ?_ | exact ⟨_, rfl, ALe.refl⟩ | refine And.intro ?_ ?_))
    · obtain ⟨y, hy⟩ := getE (show k < L.length by omega)
      have hb := c_before s y hss (hom y (List.mem_of_getElem? hy))
      repeat' (first | (refine idx_sl (k := i) (at_map hs) rfl ?_) | (refine idx_sl (k := k) (at_map hy) (by omega) ?_) | (refine slice_to (i := k + 1) (by omega) ?_) | ((refine o_appL (id := 0) (rows := []) rfl rfl rfl rfl rfl rfl rfl rfl rfl rfl rfl (by rw [List.length_map, List.length_take]; show (0 + _) * _ ≤ _; omega) (by rw [List.length_map, List.length_take]; show 0 + _ ≤ _; omega) ?_)) | ((refine o_appD rfl rfl rfl rfl rfl rfl rfl rfl rfl rfl rfl (by show (([] ++ _ : List (List PV)).length + 1) * _ ≤ _; rw [List.nil_append, List.length_map, List.length_take]; omega) (by show ([] ++ _ : List (List PV)).length + 1 ≤ _; rw [List.nil_append, List.length_map, List.length_take]; omega) ?_)) | (refine fv_sl ?_) | (refine fh_ob ?_) | (refine slice_at (i := k + 1) (by omega) ?_) | (refine (eqv_rfl ?_ : eqv (Rows.p _) _)) | (refine (eqv_rfl ?_ : eqv (rowsLen _) _)) | refine o1 ?_ | refine o2 ?_ | refine k1 ?_ | refine k2 ?_ | refine k3 ?_ | refine k4 ?_ | refine k6 ?_ | refine k7 ?_ | refine k8 ?_ | refine And.intro ?_ ?_ | exact trivial | refine o3 ?_ | refine o4 ?_ | refine o5 ?_ | refine o6 ?_ | refine k5 ?_ | (intro h; first | exact Bool.noConfusion h | exact nz _ h | exact nl h | (simp at h; done) | (simp at h; first | (exfalso; omega) | skip) | skip) | (change retOk _ _ _ _; refine ret_pure rfl trivial ?_) | exact (rfl : allOne _ = true) | (refine (?_ : (0 : Int) ≤ _); omega) | (refine (?_ : _ ≠ _); omega) | (refine (?_ : srcLen _ = rowsLen _); rfl) | exact Nat.le_of_ble_eq_true rfl | exact (by kernel_rfl : drawOk _ _ = true) | refine eqv_len_map ?_ | refine eqv_size ?_ | refine eqv_put (eqv_ck ?_) | refine eqv_zero ?_ | refine eqv_wrap (by omega) (by omega) ?_ | refine eqv_u64 (by omega) (by omega) ?_ | refine eqv_u8 (by omega) (by omega) ?_ | refine eqv_to _ (set_map rfl rfl) ?_ | refine ⟨_, _, (by first | rfl | assumption), at_map (by assumption), ?_⟩ | refine ⟨_, _, (by first | rfl | assumption), (by assumption), ?_⟩ | refine ⟨_, at_map (by assumption), (by decide), ?_⟩ | refine ⟨_, at_map (by assumption), ?_⟩ | (refine (?_ : _ ≤ 140737488355328); simp [rowsLen] <;> omega) | (refine (?_ : _ ≤ 9223372036854775807); simp [rowsLen] <;> omega) | (refine (?_ : _ = rowsLen _); simp [rowsLen] <;> omega) | refine eqv_to _ (app_row rfl) (eqv_to _ app_len ?_) | refine eqv_to _ (app_first rfl) (eqv_to 1 rfl ?_) | refine idx_sl (at_map (by assumption)) (by omega) ?_ | refine idx_ms _ (by first | rfl | assumption) (by first | assumption | omega) ?_ | (change vcFunD _ _ _ _ _; refine callD_eq rfl (by repeat' (first | trivial | refine And.intro ?_ ?_ | (show 0 + _ ≤ List.length _; simp))) ALeL.refl (hb) rfl ?_) | fail)
      · exact ⟨k, ⟨by omega, hki.trans (insK_t hy h)⟩, by omega, back [] rfl rfl trivial (And.intro (slot_eq rfl (congrArg (vint .i64) (show ((k + 1 : Nat) : Int) - 1 = (k : Int) by omega))) (by repeat' (first | exact trivial | exact rfl | exact ⟨_, rfl, ALe.refl⟩ | refine And.intro ?_ ?_)))⟩
      all_goals
        have he := hend (k + 1) hk (hki.trans (insK_f hy h))
        refine ⟨i + 1, hlt, by omega, ?_⟩
        refine Ghost.slX (s := 3) (id := 3) rfl rfl rfl (fun e => by have := congrArg List.length e; simp at this) he fun H' hl hH => back [] rfl rfl trivial (by repeat' (first | exact trivial | exact rfl | exact ren_get rfl | refine kept_ob rfl ?_ | exact ⟨_, rfl, ALe.refl⟩ | refine And.intro ?_ ?_))
  · obtain rfl : i = l.length := by omega
    rw [List.take_length]
    repeat' (first | refine o1 ?_ | refine o2 ?_ | refine k1 ?_ | refine k2 ?_ | refine k3 ?_ | refine k4 ?_ | refine k6 ?_ | refine k7 ?_ | refine k8 ?_ | refine And.intro ?_ ?_ | exact trivial | refine o3 ?_ | refine o4 ?_ | refine o5 ?_ | refine o6 ?_ | refine k5 ?_ | (intro h; first | exact Bool.noConfusion h | exact nz _ h | exact nl h | (simp at h; done) | (simp at h; first | (exfalso; omega) | skip) | skip) | (change retOk _ _ _ _; refine ret_pure rfl trivial ?_) | exact (rfl : allOne _ = true) | (refine (?_ : (0 : Int) ≤ _); omega) | (refine (?_ : _ ≠ _); omega) | (refine (?_ : srcLen _ = rowsLen _); rfl) | exact Nat.le_of_ble_eq_true rfl | exact (by kernel_rfl : drawOk _ _ = true) | refine eqv_len_map ?_ | refine eqv_size ?_ | refine eqv_put (eqv_ck ?_) | refine eqv_zero ?_ | refine eqv_wrap (by omega) (by omega) ?_ | refine eqv_u64 (by omega) (by omega) ?_ | refine eqv_u8 (by omega) (by omega) ?_ | refine eqv_to _ (set_map rfl rfl) ?_ | refine ⟨_, _, (by first | rfl | assumption), at_map (by assumption), ?_⟩ | refine ⟨_, _, (by first | rfl | assumption), (by assumption), ?_⟩ | refine ⟨_, at_map (by assumption), (by decide), ?_⟩ | refine ⟨_, at_map (by assumption), ?_⟩ | (refine (?_ : _ ≤ 140737488355328); simp [rowsLen] <;> omega) | (refine (?_ : _ ≤ 9223372036854775807); simp [rowsLen] <;> omega) | (refine (?_ : _ = rowsLen _); simp [rowsLen] <;> omega) | refine eqv_to _ (app_row rfl) (eqv_to _ app_len ?_) | refine eqv_to _ (app_first rfl) (eqv_to 1 rfl ?_) | refine idx_sl (at_map (by assumption)) (by omega) ?_ | refine idx_ms _ (by first | rfl | assumption) (by first | assumption | omega) ?_ | fail)
    exact ⟨ALe.refl⟩
theorem c_ordered (l : List Sess) (hl : l.length ≤ 1000000000) (hs0 : ∀ s ∈ l, setP s.time.weeks 20) : PCall Tryz.prog 48 [.pv (encSess l)] (fun r => r = .pv (encSess (ordV l))) := (c_ordered0 l hl hs0).weak fun r k => ⟨_, k.le, rfl⟩
/-- Whether sessions meet does not hang on their order. -/
theorem apart_ord {l : List Sess} : apartQ meetP34 (ordV l) ↔ apartQ meetP34 l := ⟨apart_perm (fun a b => meet_comm.1) ord_perm, apart_perm (fun a b => meet_comm.1) ord_perm.symm⟩
theorem c_rnorm0 (l : List Sess) (w : Int) (hl : l.length ≤ 1000000000) : PCall Tryz.prog 25 [.pv (encSess l), vint .i64 w] (fun r => Leq r (.tup [.pv (encSess (normV l w)), vint .i64 (normE l w)])) := by
  refine acall_of tok mixed 77 rfl (fn := Tryz.f25) (c := Tryz.f25.body.getD .skip) (by kernel_rfl) (by kernel_rfl) (by kernel_rfl) rfl 0 rfl ?_
  repeat' (first | refine o1 ?_ | refine o2 ?_ | refine k1 ?_ | refine k2 ?_ | refine k3 ?_ | refine k4 ?_ | refine k6 ?_ | refine k7 ?_ | refine k8 ?_ | refine And.intro ?_ ?_ | exact trivial | refine o3 ?_ | refine o4 ?_ | refine o5 ?_ | refine o6 ?_ | refine k5 ?_ | (intro h; first | exact Bool.noConfusion h | exact nz _ h | exact nl h | (simp at h; done) | (simp at h; first | (exfalso; omega) | skip) | skip) | (change retOk _ _ _ _; refine ret_pure rfl trivial ?_) | exact (rfl : allOne _ = true) | (refine (?_ : (0 : Int) ≤ _); omega) | (refine (?_ : _ ≠ _); omega) | (refine (?_ : srcLen _ = rowsLen _); rfl) | exact Nat.le_of_ble_eq_true rfl | exact (by kernel_rfl : drawOk _ _ = true) | refine eqv_len_map ?_ | refine eqv_size ?_ | refine eqv_put (eqv_ck ?_) | refine eqv_zero ?_ | refine eqv_wrap (by omega) (by omega) ?_ | refine eqv_u64 (by omega) (by omega) ?_ | refine eqv_u8 (by omega) (by omega) ?_ | refine eqv_to _ (set_map rfl rfl) ?_ | refine ⟨_, _, (by first | rfl | assumption), at_map (by assumption), ?_⟩ | refine ⟨_, _, (by first | rfl | assumption), (by assumption), ?_⟩ | refine ⟨_, at_map (by assumption), (by decide), ?_⟩ | refine ⟨_, at_map (by assumption), ?_⟩ | (refine (?_ : _ ≤ 140737488355328); simp [rowsLen] <;> omega) | (refine (?_ : _ ≤ 9223372036854775807); simp [rowsLen] <;> omega) | (refine (?_ : _ = rowsLen _); simp [rowsLen] <;> omega) | refine eqv_to _ (app_row rfl) (eqv_to _ app_len ?_) | refine eqv_to _ (app_first rfl) (eqv_to 1 rfl ?_) | refine idx_sl (at_map (by assumption)) (by omega) ?_ | refine idx_ms _ (by first | rfl | assumption) (by first | assumption | omega) ?_ | fail)
  · obtain ⟨h1, h2⟩ := nf3 (l := l) (w := w) (by omega)
    exact leq_nil h2 h1
  · have hw : 1 ≤ w ∧ w ≤ 20 := by omega
    refine loop_at (fun i : Nat => [(6, vint .i64 i)]) (fun _ => []) (fun i => i ≤ l.length ∧ ∀ j, j < i → sessAt l w j = 0) (fun i => l.length - i) 0 ⟨Nat.zero_le _, fun j hj => by omega⟩ (by repeat' (first | exact trivial | exact rfl | exact ⟨_, rfl, ALe.refl⟩ | refine And.intro ?_ ?_)) (by repeat' (first | exact trivial | exact rfl | exact ⟨_, rfl, ALe.refl⟩ | refine And.intro ?_ ?_)) ?_
    intro i ⟨hi, hall⟩
    rcases Nat.lt_or_ge i l.length with hlt | hge
    · obtain ⟨s, hs⟩ := getE hlt
      have hc := c_single s w
      have hsa := sessAt_at (w := w) hs
      generalize sessE s w = E at *
      repeat' (first | refine o1 ?_ | refine o2 ?_ | refine k1 ?_ | refine k2 ?_ | refine k3 ?_ | refine k4 ?_ | refine k6 ?_ | refine k7 ?_ | refine k8 ?_ | refine And.intro ?_ ?_ | exact trivial | refine o3 ?_ | refine o4 ?_ | refine o5 ?_ | refine o6 ?_ | refine k5 ?_ | (intro h; first | exact Bool.noConfusion h | exact nz _ h | exact nl h | (simp at h; done) | (simp at h; first | (exfalso; omega) | skip) | skip) | (change retOk _ _ _ _; refine ret_pure rfl trivial ?_) | exact (rfl : allOne _ = true) | (refine (?_ : (0 : Int) ≤ _); omega) | (refine (?_ : _ ≠ _); omega) | (refine (?_ : srcLen _ = rowsLen _); rfl) | exact Nat.le_of_ble_eq_true rfl | exact (by kernel_rfl : drawOk _ _ = true) | refine eqv_len_map ?_ | refine eqv_size ?_ | refine eqv_put (eqv_ck ?_) | refine eqv_zero ?_ | refine eqv_wrap (by omega) (by omega) ?_ | refine eqv_u64 (by omega) (by omega) ?_ | refine eqv_u8 (by omega) (by omega) ?_ | refine eqv_to _ (set_map rfl rfl) ?_ | refine ⟨_, _, (by first | rfl | assumption), at_map (by assumption), ?_⟩ | refine ⟨_, _, (by first | rfl | assumption), (by assumption), ?_⟩ | refine ⟨_, at_map (by assumption), (by decide), ?_⟩ | refine ⟨_, at_map (by assumption), ?_⟩ | (refine (?_ : _ ≤ 140737488355328); simp [rowsLen] <;> omega) | (refine (?_ : _ ≤ 9223372036854775807); simp [rowsLen] <;> omega) | (refine (?_ : _ = rowsLen _); simp [rowsLen] <;> omega) | refine eqv_to _ (app_row rfl) (eqv_to _ app_len ?_) | refine eqv_to _ (app_first rfl) (eqv_to 1 rfl ?_) | refine idx_sl (at_map (by assumption)) (by omega) ?_ | refine idx_ms _ (by first | rfl | assumption) (by first | assumption | omega) ?_ | (change vcFun _ _ _ _ _; refine call_eq rfl (by repeat' (first | trivial | refine And.intro ?_ ?_ | (show 0 + _ ≤ List.length _; simp))) ALeL.refl (hc) rfl ?_) | (change vcFunD _ _ _ _ _; refine callD_eq rfl (by repeat' (first | trivial | refine And.intro ?_ ?_ | (show 0 + _ ≤ List.length _; simp))) ALeL.refl (hc) rfl ?_) | fail)
      · obtain ⟨h1, h2⟩ := nf_s hw hall hlt (by rw [hsa]; assumption)
        exact leq_nil h2 (h1.trans hsa)
      · exact ⟨i + 1, ⟨by omega, all_lt_succ hall (by rw [hsa]; assumption)⟩, by omega, back [] rfl rfl trivial (by repeat' (first | exact trivial | exact rfl | exact ⟨_, rfl, ALe.refl⟩ | refine And.intro ?_ ?_))⟩
    · obtain rfl : i = l.length := by omega
      have hs0 := sing_all hall
      have hsi := sing_zero.1 hs0
      have n_d := nf_d (l := l) hw hs0
      have n_2 := nf_2 (l := l) hw hs0
      have n_0 := nf_0 (l := l) hw hs0
      have hjl := joined_len (l := l) (i := l.length)
      have hjo := joined_ok hs0
      have hao := apart_ord (l := joinedV l)
      have hol := ord_len (l := joinedV l)
      rw [List.take_length] at hjl
      have hc1 := c_joined l hl
      have hc2 := c_ordered (joinedV l) (by omega) fun s hs => (sess_ok (hjo s hs)).2.1.1.1
      generalize joinedV l = J at *
      generalize ordV J = O at *
      repeat' (first | ((change vcFun _ _ _ _ _; refine call_frz rfl (by repeat' (first | trivial | refine And.intro ?_ ?_ | (show 0 + _ ≤ List.length _; simp))) ALeL.refl hc1 ?_; rintro _ rfl)) | ((change vcFun _ _ _ _ _; refine call_frz rfl (by repeat' (first | trivial | refine And.intro ?_ ?_ | (show 0 + _ ≤ List.length _; simp))) ALeL.refl hc2 ?_; rintro _ rfl)) | refine o1 ?_ | refine o2 ?_ | refine k1 ?_ | refine k2 ?_ | refine k3 ?_ | refine k4 ?_ | refine k6 ?_ | refine k7 ?_ | refine k8 ?_ | refine And.intro ?_ ?_ | exact trivial | refine o3 ?_ | refine o4 ?_ | refine o5 ?_ | refine o6 ?_ | refine k5 ?_ | (intro h; first | exact Bool.noConfusion h | exact nz _ h | exact nl h | (simp at h; done) | (simp at h; first | (exfalso; omega) | skip) | skip) | (change retOk _ _ _ _; refine ret_pure rfl trivial ?_) | exact (rfl : allOne _ = true) | (refine (?_ : (0 : Int) ≤ _); omega) | (refine (?_ : _ ≠ _); omega) | (refine (?_ : srcLen _ = rowsLen _); rfl) | exact Nat.le_of_ble_eq_true rfl | exact (by kernel_rfl : drawOk _ _ = true) | refine eqv_len_map ?_ | refine eqv_size ?_ | refine eqv_put (eqv_ck ?_) | refine eqv_zero ?_ | refine eqv_wrap (by omega) (by omega) ?_ | refine eqv_u64 (by omega) (by omega) ?_ | refine eqv_u8 (by omega) (by omega) ?_ | refine eqv_to _ (set_map rfl rfl) ?_ | refine ⟨_, _, (by first | rfl | assumption), at_map (by assumption), ?_⟩ | refine ⟨_, _, (by first | rfl | assumption), (by assumption), ?_⟩ | refine ⟨_, at_map (by assumption), (by decide), ?_⟩ | refine ⟨_, at_map (by assumption), ?_⟩ | (refine (?_ : _ ≤ 140737488355328); simp [rowsLen] <;> omega) | (refine (?_ : _ ≤ 9223372036854775807); simp [rowsLen] <;> omega) | (refine (?_ : _ = rowsLen _); simp [rowsLen] <;> omega) | refine eqv_to _ (app_row rfl) (eqv_to _ app_len ?_) | refine eqv_to _ (app_first rfl) (eqv_to 1 rfl ?_) | refine idx_sl (at_map (by assumption)) (by omega) ?_ | refine idx_ms _ (by first | rfl | assumption) (by first | assumption | omega) ?_ | fail)
      refine loop_at (fun i : Nat => [(9, vint .i64 i)]) (fun _ => []) (fun i => i ≤ O.length ∧ ∀ p, p < i → ∀ (q : Nat) (a b : Sess), q < p → O[p]? = some a → O[q]? = some b → ¬ meetP34 a b) (fun i => O.length - i) 0 ⟨Nat.zero_le _, fun j hj => by omega⟩ (by repeat' (first | exact trivial | exact rfl | exact ⟨_, rfl, ALe.refl⟩ | refine And.intro ?_ ?_)) (by repeat' (first | exact trivial | exact rfl | exact ⟨_, rfl, ALe.refl⟩ | refine And.intro ?_ ?_)) ?_
      intro i ⟨hi, hall3⟩
      rcases Nat.lt_or_ge i O.length with hlt | hge2
      · obtain ⟨s, hs⟩ := getE hlt
        repeat' (first | refine o1 ?_ | refine o2 ?_ | refine k1 ?_ | refine k2 ?_ | refine k3 ?_ | refine k4 ?_ | refine k6 ?_ | refine k7 ?_ | refine k8 ?_ | refine And.intro ?_ ?_ | exact trivial | refine o3 ?_ | refine o4 ?_ | refine o5 ?_ | refine o6 ?_ | refine k5 ?_ | (intro h; first | exact Bool.noConfusion h | exact nz _ h | exact nl h | (simp at h; done) | (simp at h; first | (exfalso; omega) | skip) | skip) | (change retOk _ _ _ _; refine ret_pure rfl trivial ?_) | exact (rfl : allOne _ = true) | (refine (?_ : (0 : Int) ≤ _); omega) | (refine (?_ : _ ≠ _); omega) | (refine (?_ : srcLen _ = rowsLen _); rfl) | exact Nat.le_of_ble_eq_true rfl | exact (by kernel_rfl : drawOk _ _ = true) | refine eqv_len_map ?_ | refine eqv_size ?_ | refine eqv_put (eqv_ck ?_) | refine eqv_zero ?_ | refine eqv_wrap (by omega) (by omega) ?_ | refine eqv_u64 (by omega) (by omega) ?_ | refine eqv_u8 (by omega) (by omega) ?_ | refine eqv_to _ (set_map rfl rfl) ?_ | refine ⟨_, _, (by first | rfl | assumption), at_map (by assumption), ?_⟩ | refine ⟨_, _, (by first | rfl | assumption), (by assumption), ?_⟩ | refine ⟨_, at_map (by assumption), (by decide), ?_⟩ | refine ⟨_, at_map (by assumption), ?_⟩ | (refine (?_ : _ ≤ 140737488355328); simp [rowsLen] <;> omega) | (refine (?_ : _ ≤ 9223372036854775807); simp [rowsLen] <;> omega) | (refine (?_ : _ = rowsLen _); simp [rowsLen] <;> omega) | refine eqv_to _ (app_row rfl) (eqv_to _ app_len ?_) | refine eqv_to _ (app_first rfl) (eqv_to 1 rfl ?_) | refine idx_sl (at_map (by assumption)) (by omega) ?_ | refine idx_ms _ (by first | rfl | assumption) (by first | assumption | omega) ?_ | fail)
        refine loop_at (fun k : Nat => [(10, vint .i64 k)]) (fun _ => []) (fun k => k ≤ i ∧ ∀ q, q < k → ∀ b, O[q]? = some b → ¬ meetP34 s b) (fun k => i - k) 0 ⟨Nat.zero_le _, fun j hj => by omega⟩ (by repeat' (first | exact trivial | exact rfl | exact ⟨_, rfl, ALe.refl⟩ | refine And.intro ?_ ?_)) (by repeat' (first | exact trivial | exact rfl | exact ⟨_, rfl, ALe.refl⟩ | refine And.intro ?_ ?_)) ?_
        intro k ⟨hk3, hall4⟩
        rcases Nat.lt_or_ge k i with hlt2 | hge3
        · obtain ⟨t, ht⟩ := getE (show k < O.length by omega)
          repeat' (first | (refine idx_sl (k := i) (at_map hs) (by omega) ?_) | (refine idx_sl (k := k) (at_map ht) (by omega) ?_) | (refine (eqv_rfl ?_ : eqv (bits _ _ _ _) _)) | refine o1 ?_ | refine o2 ?_ | refine k1 ?_ | refine k2 ?_ | refine k3 ?_ | refine k4 ?_ | refine k6 ?_ | refine k7 ?_ | refine k8 ?_ | refine And.intro ?_ ?_ | exact trivial | refine o3 ?_ | refine o4 ?_ | refine o5 ?_ | refine o6 ?_ | refine k5 ?_ | (intro h; first | exact Bool.noConfusion h | exact nz _ h | exact nl h | (simp at h; done) | (simp at h; first | (exfalso; omega) | skip) | skip) | (change retOk _ _ _ _; refine ret_pure rfl trivial ?_) | exact (rfl : allOne _ = true) | (refine (?_ : (0 : Int) ≤ _); omega) | (refine (?_ : _ ≠ _); omega) | (refine (?_ : srcLen _ = rowsLen _); rfl) | exact Nat.le_of_ble_eq_true rfl | exact (by kernel_rfl : drawOk _ _ = true) | refine eqv_len_map ?_ | refine eqv_size ?_ | refine eqv_put (eqv_ck ?_) | refine eqv_zero ?_ | refine eqv_wrap (by omega) (by omega) ?_ | refine eqv_u64 (by omega) (by omega) ?_ | refine eqv_u8 (by omega) (by omega) ?_ | refine eqv_to _ (set_map rfl rfl) ?_ | refine ⟨_, _, (by first | rfl | assumption), at_map (by assumption), ?_⟩ | refine ⟨_, _, (by first | rfl | assumption), (by assumption), ?_⟩ | refine ⟨_, at_map (by assumption), (by decide), ?_⟩ | refine ⟨_, at_map (by assumption), ?_⟩ | (refine (?_ : _ ≤ 140737488355328); simp [rowsLen] <;> omega) | (refine (?_ : _ ≤ 9223372036854775807); simp [rowsLen] <;> omega) | (refine (?_ : _ = rowsLen _); simp [rowsLen] <;> omega) | refine eqv_to _ (app_row rfl) (eqv_to _ app_len ?_) | refine eqv_to _ (app_first rfl) (eqv_to 1 rfl ?_) | refine idx_sl (at_map (by assumption)) (by omega) ?_ | refine idx_ms _ (by first | rfl | assumption) (by first | assumption | omega) ?_ | fail)
          · rename_i h1
            obtain ⟨g1, g2⟩ := n_d fun hap => (hao.2 hap) i k s t hlt2 hs ht ⟨sEq_iff.1 h1, h⟩
            exact leq_nil g2 g1
          · exact ⟨k + 1, ⟨by omega, all_lt_succ hall4 fun b hb => by rw [ht] at hb; cases hb; exact fun c => c.2 h⟩, by omega, back [] rfl rfl trivial (by repeat' (first | exact trivial | exact rfl | exact ⟨_, rfl, ALe.refl⟩ | refine And.intro ?_ ?_))⟩
          · rename_i h1
            exact ⟨k + 1, ⟨by omega, all_lt_succ hall4 fun b hb => by rw [ht] at hb; cases hb; exact fun c => sEq_f.1 h1 c.1⟩, by omega, back [] rfl rfl trivial (by repeat' (first | exact trivial | exact rfl | exact ⟨_, rfl, ALe.refl⟩ | refine And.intro ?_ ?_))⟩
        · repeat' (first | refine o1 ?_ | refine o2 ?_ | refine k1 ?_ | refine k2 ?_ | refine k3 ?_ | refine k4 ?_ | refine k6 ?_ | refine k7 ?_ | refine k8 ?_ | refine And.intro ?_ ?_ | exact trivial | refine o3 ?_ | refine o4 ?_ | refine o5 ?_ | refine o6 ?_ | refine k5 ?_ | (intro h; first | exact Bool.noConfusion h | exact nz _ h | exact nl h | (simp at h; done) | (simp at h; first | (exfalso; omega) | skip) | skip) | (change retOk _ _ _ _; refine ret_pure rfl trivial ?_) | exact (rfl : allOne _ = true) | (refine (?_ : (0 : Int) ≤ _); omega) | (refine (?_ : _ ≠ _); omega) | (refine (?_ : srcLen _ = rowsLen _); rfl) | exact Nat.le_of_ble_eq_true rfl | exact (by kernel_rfl : drawOk _ _ = true) | refine eqv_len_map ?_ | refine eqv_size ?_ | refine eqv_put (eqv_ck ?_) | refine eqv_zero ?_ | refine eqv_wrap (by omega) (by omega) ?_ | refine eqv_u64 (by omega) (by omega) ?_ | refine eqv_u8 (by omega) (by omega) ?_ | refine eqv_to _ (set_map rfl rfl) ?_ | refine ⟨_, _, (by first | rfl | assumption), at_map (by assumption), ?_⟩ | refine ⟨_, _, (by first | rfl | assumption), (by assumption), ?_⟩ | refine ⟨_, at_map (by assumption), (by decide), ?_⟩ | refine ⟨_, at_map (by assumption), ?_⟩ | (refine (?_ : _ ≤ 140737488355328); simp [rowsLen] <;> omega) | (refine (?_ : _ ≤ 9223372036854775807); simp [rowsLen] <;> omega) | (refine (?_ : _ = rowsLen _); simp [rowsLen] <;> omega) | refine eqv_to _ (app_row rfl) (eqv_to _ app_len ?_) | refine eqv_to _ (app_first rfl) (eqv_to 1 rfl ?_) | refine idx_sl (at_map (by assumption)) (by omega) ?_ | refine idx_ms _ (by first | rfl | assumption) (by first | assumption | omega) ?_ | fail)
          exact ⟨i + 1, ⟨by omega, all_lt_succ hall3 fun q a b hq ha hb => by rw [hs] at ha; cases ha; exact hall4 q (by omega) b hb⟩, by omega, back [] rfl rfl trivial (by repeat' (first | exact trivial | exact rfl | exact ⟨_, rfl, ALe.refl⟩ | refine And.intro ?_ ?_))⟩
      · have hap : apartQ meetP34 J := hao.1 fun p q a b hq ha hb => hall3 p (by have := (List.getElem?_eq_some_iff.1 ha).1; omega) q a b hq ha hb
        repeat' (first | refine o1 ?_ | refine o2 ?_ | refine k1 ?_ | refine k2 ?_ | refine k3 ?_ | refine k4 ?_ | refine k6 ?_ | refine k7 ?_ | refine k8 ?_ | refine And.intro ?_ ?_ | exact trivial | refine o3 ?_ | refine o4 ?_ | refine o5 ?_ | refine o6 ?_ | refine k5 ?_ | (intro h; first | exact Bool.noConfusion h | exact nz _ h | exact nl h | (simp at h; done) | (simp at h; first | (exfalso; omega) | skip) | skip) | (change retOk _ _ _ _; refine ret_pure rfl trivial ?_) | exact (rfl : allOne _ = true) | (refine (?_ : (0 : Int) ≤ _); omega) | (refine (?_ : _ ≠ _); omega) | (refine (?_ : srcLen _ = rowsLen _); rfl) | exact Nat.le_of_ble_eq_true rfl | exact (by kernel_rfl : drawOk _ _ = true) | refine eqv_len_map ?_ | refine eqv_size ?_ | refine eqv_put (eqv_ck ?_) | refine eqv_zero ?_ | refine eqv_wrap (by omega) (by omega) ?_ | refine eqv_u64 (by omega) (by omega) ?_ | refine eqv_u8 (by omega) (by omega) ?_ | refine eqv_to _ (set_map rfl rfl) ?_ | refine ⟨_, _, (by first | rfl | assumption), at_map (by assumption), ?_⟩ | refine ⟨_, _, (by first | rfl | assumption), (by assumption), ?_⟩ | refine ⟨_, at_map (by assumption), (by decide), ?_⟩ | refine ⟨_, at_map (by assumption), ?_⟩ | (refine (?_ : _ ≤ 140737488355328); simp [rowsLen] <;> omega) | (refine (?_ : _ ≤ 9223372036854775807); simp [rowsLen] <;> omega) | (refine (?_ : _ = rowsLen _); simp [rowsLen] <;> omega) | refine eqv_to _ (app_row rfl) (eqv_to _ app_len ?_) | refine eqv_to _ (app_first rfl) (eqv_to 1 rfl ?_) | refine idx_sl (at_map (by assumption)) (by omega) ?_ | refine idx_ms _ (by first | rfl | assumption) (by first | assumption | omega) ?_ | fail)
        · obtain ⟨g1, g2⟩ := n_2 hap (by omega)
          exact leq_nil g2 g1
        · obtain ⟨g1, g2⟩ := n_0 hap (by omega)
          rw [g1, g2]
          exact ⟨ALe.refl⟩
  · obtain ⟨h1, h2⟩ := nf3 (l := l) (w := w) (by omega)
    exact leq_nil h2 h1
theorem c_rnorm (l : List Sess) (w : Int) (hl : l.length ≤ 1000000000) : PCall Tryz.prog 25 [.pv (encSess l), vint .i64 w] (fun r => r = .tup [.pv (encSess (normV l w)), vint .i64 (normE l w)]) := (c_rnorm0 l w hl).weak fun r k => ⟨_, k.le, rfl⟩
end Go.Proofs.YtbcacaodfpgflaaGreatDoor.Cw

/-
  Plain laws of chapter 34: where a class is in a week; spliced lists.
-/
namespace Go.Proofs.YtbcacaodfpgflaaGreatDoor.Cw
open Go Go.Cw Go.Proofs
set_option linter.unusedVariables false

def setW (s : Sess) (w : Int) : Sess := ⟨s.cls, ⟨w, s.time.day, s.time.start, s.time.len⟩, s.room⟩
noncomputable def masked (f : Int → Int) (l : List Sess) : List Sess := l.flatMap fun s => if f s.time.weeks = 0 then [] else [setW s (f s.time.weeks)]
def firstM (k : Int) : Int := 2 ^ (k - 1).toNat - 1
def andF (k x : Int) : Int := bits .and .i64 x (firstM k)
def notF (k x : Int) : Int := bits .andNot .i64 x (firstM k)
noncomputable def splL (a b : List Sess) (k : Int) : List Sess := masked (andF k) a ++ masked (notF k) b
noncomputable def splE (a b : List Sess) (w k : Int) : Int := if validE a w ≠ 0 then validE a w else if validE b w ≠ 0 then validE b w else if k < 1 ∨ w + 1 < k then 3 else normE (splL a b k) w
noncomputable def splV (a b : List Sess) (w k : Int) : List Sess := if splE a b w k = 0 then normV (splL a b k) w else []

/-- The mask of the weeks before one, or from it on: what it does to a set. -/
def maskAt (f : Int → Int) (p : Nat → Bool) : Prop := ∀ n : Nat, n < 2 ^ 20 → ∃ c : Nat, f (n : Int) = (c : Int) ∧ c ≤ n ∧ ∀ i, c.testBit i = (n.testBit i && p i)
/-- A session of a class in a week. -/
def hasW (l : List Sess) (c : Str) (i : Nat) (u : Sess) : Prop := ∃ s ∈ l, s.cls = c ∧ bitB s.time.weeks i = true ∧ alikeP s u
/-- At, of two lists in which the same holds. -/
def sameO : Option Sess → Option Sess → Prop
  | none, none => True
  | some a, some b => alikeP a b
  | _, _ => False
end Go.Proofs.YtbcacaodfpgflaaGreatDoor.Cw

/-
  Contracts: where a class is in a week; equal lists; spliced lists.
-/
namespace Go.Proofs.YtbcacaodfpgflaaGreatDoor.Cw
open Go Go.Cw Go.Proofs
set_option linter.unusedVariables false
set_option maxRecDepth 100000
set_option maxHeartbeats 8000000

def atV : Option Sess → AV
  | some s => .tup [ag s.row, vbool true]
  | none => .tup [ag zeroS.row, vbool false]
noncomputable def isAt (c : Str) (w : Int) (s : Sess) : Bool := pB (s.cls = c ∧ bitB s.time.weeks (w - 1).toNat = true)
/-- Two lists are equal. -/
theorem sess_ne {x y : Sess} (h : sEq x.cls y.cls = false ∨ (¬ x.time.weeks = y.time.weeks ∨ ¬ x.time.day = y.time.day ∨ ¬ x.time.start = y.time.start ∨ ¬ x.time.len = y.time.len) ∨ sEq x.room y.room = false) : ¬ x = y := by
  rintro rfl
  rcases h with h | (h | h | h | h) | h
  · rw [sEq_self] at h; cases h
  · exact h rfl
  · exact h rfl
  · exact h rfl
  · exact h rfl
  · rw [sEq_self] at h; cases h
theorem sess_eq2 {x y : Sess} (h : sEq x.cls y.cls = true ∧ (x.time.weeks = y.time.weeks ∧ x.time.day = y.time.day ∧ x.time.start = y.time.start ∧ x.time.len = y.time.len) ∧ sEq x.room y.room = true) : x = y :=
  sess_eq (sEq_iff.1 h.1) h.2.1.1 h.2.1.2.1 h.2.1.2.2.1 h.2.1.2.2.2 (sEq_iff.1 h.2.2)
theorem lists_at {α : Type} {a b : List α} (hl : a.length = b.length) (h : ∀ j, j < a.length → ∀ x y, a[j]? = some x → b[j]? = some y → x = y) : a = b := by
  apply List.ext_getElem? 
  intro i
  rcases Nat.lt_or_ge i a.length with hi | hi
  · obtain ⟨x, hx⟩ := getE hi
    obtain ⟨y, hy⟩ := getE (show i < b.length by omega)
    rw [hx, hy, h i hi x y hx hy]
  · rw [List.getElem?_eq_none hi, List.getElem?_eq_none (by omega)]
theorem c_same (a b : List Sess) (ha : a.length ≤ 2199023255552) (hb : b.length ≤ 2199023255552) : PCall Tryz.prog 15 [.pv (encSess a), .pv (encSess b)] (fun r => r = vbool (pB (a = b))) := by
  refine acall_of tok mixed 26 rfl (fn := Tryz.f15) (c := Tryz.f15.body.getD .skip) (by kernel_rfl) (by kernel_rfl) (by kernel_rfl) rfl 0 rfl ?_
  repeat' (first | refine o1 ?_ | refine o2 ?_ | refine k1 ?_ | refine k2 ?_ | refine k3 ?_ | refine k4 ?_ | refine k6 ?_ | refine k7 ?_ | refine k8 ?_ | refine And.intro ?_ ?_ | exact trivial | refine o3 ?_ | refine o4 ?_ | refine o5 ?_ | refine o6 ?_ | refine k5 ?_ | (intro h; first | exact Bool.noConfusion h | exact nz _ h | exact nl h | (simp at h; done) | (simp at h; first | (exfalso; omega) | skip) | skip) | (change retOk _ _ _ _; refine ret_pure rfl trivial ?_) | exact (rfl : allOne _ = true) | (refine (?_ : (0 : Int) ≤ _); omega) | (refine (?_ : _ ≠ _); omega) | (refine (?_ : srcLen _ = rowsLen _); rfl) | exact Nat.le_of_ble_eq_true rfl | exact (by kernel_rfl : drawOk _ _ = true) | refine eqv_len_map ?_ | refine eqv_size ?_ | refine eqv_put (eqv_ck ?_) | refine eqv_zero ?_ | refine eqv_wrap (by omega) (by omega) ?_ | refine eqv_u64 (by omega) (by omega) ?_ | refine eqv_u8 (by omega) (by omega) ?_ | refine eqv_to _ (set_map rfl rfl) ?_ | refine ⟨_, _, (by first | rfl | assumption), at_map (by assumption), ?_⟩ | refine ⟨_, _, (by first | rfl | assumption), (by assumption), ?_⟩ | refine ⟨_, at_map (by assumption), (by decide), ?_⟩ | refine ⟨_, at_map (by assumption), ?_⟩ | (refine (?_ : _ ≤ 140737488355328); simp [rowsLen] <;> omega) | (refine (?_ : _ ≤ 9223372036854775807); simp [rowsLen] <;> omega) | (refine (?_ : _ = rowsLen _); simp [rowsLen] <;> omega) | refine eqv_to _ (app_row rfl) (eqv_to _ app_len ?_) | refine eqv_to _ (app_first rfl) (eqv_to 1 rfl ?_) | refine idx_sl (at_map (by assumption)) (by omega) ?_ | refine idx_ms _ (by first | rfl | assumption) (by first | assumption | omega) ?_ | fail)
  · exact congrArg vbool (pB_f fun e => by subst e; simp_all).symm
  · have hl : a.length = b.length := by omega
    refine loop_at (fun i : Nat => [(5, vint .i64 i)]) (fun _ => []) (fun i => i ≤ a.length ∧ ∀ j, j < i → ∀ x y, a[j]? = some x → b[j]? = some y → x = y) (fun i => a.length - i) 0 ⟨Nat.zero_le _, fun j hj => by omega⟩ (by repeat' (first | exact trivial | exact rfl | exact ⟨_, rfl, ALe.refl⟩ | refine And.intro ?_ ?_)) (by repeat' (first | exact trivial | exact rfl | exact ⟨_, rfl, ALe.refl⟩ | refine And.intro ?_ ?_)) ?_
    intro i ⟨hi, hall⟩
    rcases Nat.lt_or_ge i a.length with hlt | hge
    · obtain ⟨x, hx⟩ := getE hlt
      obtain ⟨y, hy⟩ := getE (show i < b.length by omega)
      repeat' (first | refine o1 ?_ | refine o2 ?_ | refine k1 ?_ | refine k2 ?_ | refine k3 ?_ | refine k4 ?_ | refine k6 ?_ | refine k7 ?_ | refine k8 ?_ | refine And.intro ?_ ?_ | exact trivial | refine o3 ?_ | refine o4 ?_ | refine o5 ?_ | refine o6 ?_ | refine k5 ?_ | (intro h; first | exact Bool.noConfusion h | exact nz _ h | exact nl h | (simp at h; done) | (simp at h; first | (exfalso; omega) | skip) | skip) | (change retOk _ _ _ _; refine ret_pure rfl trivial ?_) | exact (rfl : allOne _ = true) | (refine (?_ : (0 : Int) ≤ _); omega) | (refine (?_ : _ ≠ _); omega) | (refine (?_ : srcLen _ = rowsLen _); rfl) | exact Nat.le_of_ble_eq_true rfl | exact (by kernel_rfl : drawOk _ _ = true) | refine eqv_len_map ?_ | refine eqv_size ?_ | refine eqv_put (eqv_ck ?_) | refine eqv_zero ?_ | refine eqv_wrap (by omega) (by omega) ?_ | refine eqv_u64 (by omega) (by omega) ?_ | refine eqv_u8 (by omega) (by omega) ?_ | refine eqv_to _ (set_map rfl rfl) ?_ | refine ⟨_, _, (by first | rfl | assumption), at_map (by assumption), ?_⟩ | refine ⟨_, _, (by first | rfl | assumption), (by assumption), ?_⟩ | refine ⟨_, at_map (by assumption), (by decide), ?_⟩ | refine ⟨_, at_map (by assumption), ?_⟩ | (refine (?_ : _ ≤ 140737488355328); simp [rowsLen] <;> omega) | (refine (?_ : _ ≤ 9223372036854775807); simp [rowsLen] <;> omega) | (refine (?_ : _ = rowsLen _); simp [rowsLen] <;> omega) | refine eqv_to _ (app_row rfl) (eqv_to _ app_len ?_) | refine eqv_to _ (app_first rfl) (eqv_to 1 rfl ?_) | refine idx_sl (at_map (by assumption)) (by omega) ?_ | refine idx_ms _ (by first | rfl | assumption) (by first | assumption | omega) ?_ | fail)
      · have hne : ¬ x = y := sess_ne h
        exact congrArg vbool (pB_f fun e => hne (by subst e; rw [hx] at hy; injection hy)).symm
      · have he : x = y := sess_eq2 h
        exact ⟨i + 1, ⟨by omega, all_lt_succ hall fun x' y' q1 q2 => by rw [hx] at q1; cases q1; rw [hy] at q2; cases q2; exact he⟩, by omega, back [] rfl rfl trivial (by repeat' (first | exact trivial | exact rfl | exact ⟨_, rfl, ALe.refl⟩ | refine And.intro ?_ ?_))⟩
    · repeat' (first | refine o1 ?_ | refine o2 ?_ | refine k1 ?_ | refine k2 ?_ | refine k3 ?_ | refine k4 ?_ | refine k6 ?_ | refine k7 ?_ | refine k8 ?_ | refine And.intro ?_ ?_ | exact trivial | refine o3 ?_ | refine o4 ?_ | refine o5 ?_ | refine o6 ?_ | refine k5 ?_ | (intro h; first | exact Bool.noConfusion h | exact nz _ h | exact nl h | (simp at h; done) | (simp at h; first | (exfalso; omega) | skip) | skip) | (change retOk _ _ _ _; refine ret_pure rfl trivial ?_) | exact (rfl : allOne _ = true) | (refine (?_ : (0 : Int) ≤ _); omega) | (refine (?_ : _ ≠ _); omega) | (refine (?_ : srcLen _ = rowsLen _); rfl) | exact Nat.le_of_ble_eq_true rfl | exact (by kernel_rfl : drawOk _ _ = true) | refine eqv_len_map ?_ | refine eqv_size ?_ | refine eqv_put (eqv_ck ?_) | refine eqv_zero ?_ | refine eqv_wrap (by omega) (by omega) ?_ | refine eqv_u64 (by omega) (by omega) ?_ | refine eqv_u8 (by omega) (by omega) ?_ | refine eqv_to _ (set_map rfl rfl) ?_ | refine ⟨_, _, (by first | rfl | assumption), at_map (by assumption), ?_⟩ | refine ⟨_, _, (by first | rfl | assumption), (by assumption), ?_⟩ | refine ⟨_, at_map (by assumption), (by decide), ?_⟩ | refine ⟨_, at_map (by assumption), ?_⟩ | (refine (?_ : _ ≤ 140737488355328); simp [rowsLen] <;> omega) | (refine (?_ : _ ≤ 9223372036854775807); simp [rowsLen] <;> omega) | (refine (?_ : _ = rowsLen _); simp [rowsLen] <;> omega) | refine eqv_to _ (app_row rfl) (eqv_to _ app_len ?_) | refine eqv_to _ (app_first rfl) (eqv_to 1 rfl ?_) | refine idx_sl (at_map (by assumption)) (by omega) ?_ | refine idx_ms _ (by first | rfl | assumption) (by first | assumption | omega) ?_ | fail)
      exact congrArg vbool (pB_t (lists_at hl fun j hj => hall j (by omega))).symm
end Go.Proofs.YtbcacaodfpgflaaGreatDoor.Cw

/-
  Plain laws of chapter 34: the classes of lists; the changes between two lists, and what they do.
-/
namespace Go.Proofs.YtbcacaodfpgflaaGreatDoor.Cw
open Go Go.Cw Go.Proofs
set_option linter.unusedVariables false

noncomputable def ofC (l : List Sess) (c : Str) : List Sess := l.filter fun s => pB (s.cls = c)
noncomputable def clsOf (L : List Str) : List Str := compactS (sortS L)
theorem clsOf_mem {L : List Str} {x : Str} : x ∈ clsOf L ↔ x ∈ L := by
  unfold clsOf; rw [(compactS_spec (sortS_asc L)).1]; exact (sortS_perm L).mem_iff
theorem clsOf_str {L : List Str} : strS (clsOf L) := (compactS_spec (sortS_asc L)).2
theorem clsOf_same {L M : List Str} (h : ∀ x, x ∈ L ↔ x ∈ M) : clsOf L = clsOf M := strS_unique clsOf_str clsOf_str fun x => by rw [clsOf_mem, clsOf_mem, h]
theorem filter_unique {p : Str → Bool} {K M : List Str} (h1 : strS K) (h2 : strS M) (h : ∀ x, p x = true → (x ∈ K ↔ x ∈ M)) : K.filter p = M.filter p :=
  strS_unique (List.Pairwise.filter p h1) (List.Pairwise.filter p h2) fun x => by
    rw [List.mem_filter, List.mem_filter]
    exact ⟨fun k => ⟨(h x k.2).1 k.1, k.2⟩, fun k => ⟨(h x k.2).2 k.1, k.2⟩⟩
theorem filterMap_on {β : Type} {g : Str → Option β} : ∀ {K : List Str}, K.filterMap g = (K.filter fun k => (g k).isSome).filterMap g
  | [] => rfl
  | k :: K => by
    have ih := filterMap_on (g := g) (K := K)
    cases h : g k with
    | none => simp [List.filterMap_cons, List.filter_cons, h, ih]
    | some x => simp [List.filterMap_cons, List.filter_cons, h, ih]
theorem filterMap_unique {β : Type} {g : Str → Option β} {K M : List Str} (h1 : strS K) (h2 : strS M) (h : ∀ x, (g x).isSome = true → (x ∈ K ↔ x ∈ M)) : K.filterMap g = M.filterMap g := by
  rw [filterMap_on, filterMap_on (K := M), filter_unique h1 h2 h]
theorem flatMap_on {β : Type} {g : Str → List β} : ∀ {K : List Str}, K.flatMap g = (K.filter fun k => !(g k).isEmpty).flatMap g
  | [] => rfl
  | k :: K => by
    have ih := flatMap_on (g := g) (K := K)
    cases h : g k with
    | nil => simp [List.filter_cons, h, ih]
    | cons x l => simp [List.filter_cons, h, ih]
theorem flatMap_unique {β : Type} {g : Str → List β} {K M : List Str} (h1 : strS K) (h2 : strS M) (h : ∀ x, g x ≠ [] → (x ∈ K ↔ x ∈ M)) : K.flatMap g = M.flatMap g := by
  rw [flatMap_on, flatMap_on (K := M), filter_unique h1 h2 fun x hx => h x (by simpa using hx)]

theorem ofC_mem {l : List Sess} {c : Str} {s : Sess} : s ∈ ofC l c ↔ s ∈ l ∧ s.cls = c := by
  unfold ofC; rw [List.mem_filter]; simp
theorem ofC_nil {l : List Sess} {c : Str} (h : ¬ c ∈ l.map Sess.cls) : ofC l c = [] := by
  unfold ofC
  refine List.filter_eq_nil_iff.2 fun s hs => ?_
  rw [pB_f fun e => h (List.mem_map.2 ⟨s, hs, e⟩)]; simp
theorem ofC_idem {l : List Sess} {c : Str} : ofC (ofC l c) c = ofC l c := by
  unfold ofC; rw [List.filter_filter]; simp
theorem ofC_all {l : List Sess} {c : Str} (h : (ofC l c).length = l.length) : ∀ s ∈ l, s.cls = c := fun s hs => by
  have e : ofC l c = l := by unfold ofC at *; exact List.filter_sublist.eq_of_length h
  rw [← e] at hs
  exact (ofC_mem.1 hs).2
noncomputable def chgD (a b : List Sess) (K : List Str) : List Chg := K.filterMap fun k => if pB (ofC a k = ofC b k) then none else some ⟨k, ofC a k, ofC b k⟩
noncomputable def clsU (a b : List Sess) : List Str := clsOf (a.map Sess.cls ++ b.map Sess.cls)
noncomputable def chgV (a b : List Sess) : List Chg := chgD a b (clsU a b)
theorem chgD_same {a b : List Sess} {K M : List Str} (h1 : strS K) (h2 : strS M) (h : ∀ k, ofC a k ≠ ofC b k → k ∈ K ∧ k ∈ M) : chgD a b K = chgD a b M :=
  filterMap_unique h1 h2 fun k hk => by
    by_cases e : ofC a k = ofC b k
    · rw [if_pos (pB_t e)] at hk; cases hk
    · exact ⟨fun _ => (h k e).2, fun _ => (h k e).1⟩
theorem diff_in {a b : List Sess} {k : Str} (h : ofC a k ≠ ofC b k) : k ∈ clsU a b := by
  unfold clsU
  rw [clsOf_mem, List.mem_append]
  apply Classical.byContradiction
  intro hn
  rw [not_or] at hn
  exact h (by rw [ofC_nil hn.1, ofC_nil hn.2])
theorem flat_perm : ∀ {K : List Str} {l : List Sess}, K.Nodup → (∀ s ∈ l, s.cls ∈ K) → (K.flatMap (ofC l)).Perm l
  | [], l, _, h => by
    cases l with
    | nil => exact List.Perm.refl _
    | cons s l => exact absurd (h s (by simp)) (by simp)
  | k :: K, l, hn, h => by
    rw [List.nodup_cons] at hn
    rw [List.flatMap_cons]
    have e : K.flatMap (ofC l) = K.flatMap (ofC (l.filter fun s => !pB (s.cls = k))) := by
      have : ∀ {M : List Str}, (∀ c ∈ M, c ≠ k) → M.flatMap (ofC l) = M.flatMap (ofC (l.filter fun s => !pB (s.cls = k))) := by
        intro M
        induction M with
        | nil => intro _; rfl
        | cons c M ih =>
          intro hM
          rw [List.flatMap_cons, List.flatMap_cons, ih fun c hc => hM c (by simp [hc])]
          congr 1
          unfold ofC
          rw [List.filter_filter]
          refine List.filter_congr fun s hs => ?_
          by_cases e : s.cls = c
          · rw [pB_t e, pB_f fun e2 => hM c (by simp) (e.symm.trans e2)]; rfl
          · rw [pB_f e]; rfl
      exact this fun c hc e => hn.1 (e ▸ hc)
    rw [e]
    refine (List.Perm.append_left _ (flat_perm hn.2 fun s hs => ?_)).trans ?_
    · rw [List.mem_filter] at hs
      have := h s hs.1
      rcases List.mem_cons.1 this with e | e
      · rw [pB_t e] at hs; simp at hs
      · exact e
    · unfold ofC
      exact List.filter_append_perm _ _
theorem str_nodup {K : List Str} (h : strS K) : K.Nodup := List.Pairwise.imp (fun {a b} k e => by subst e; rw [sLt_irr] at k; cases k) h
/-- A sorted list, class by class. -/
theorem blocks {l : List Sess} (hl : l.Pairwise befP) {K : List Str} (hK : strS K) (h : ∀ s ∈ l, s.cls ∈ K) : K.flatMap (ofC l) = l := by
  refine sorted_unique (flat_perm (str_nodup hK) h) ?_ hl
  clear h
  induction K with
  | nil => exact List.Pairwise.nil
  | cons k K ih =>
    rw [strS, List.pairwise_cons] at hK
    rw [List.flatMap_cons, List.pairwise_append]
    refine ⟨List.Pairwise.filter _ hl, ih hK.2, fun a ha b hb => ?_⟩
    obtain ⟨c, hc, hb⟩ := List.mem_flatMap.1 hb
    have h1 := (ofC_mem.1 ha).2
    have h2 := (ofC_mem.1 hb).2
    exact .inl (by rw [h1, h2]; exact hK.1 c hc)

noncomputable def findC (c : List Chg) (k : Str) : Option Chg := c.find? fun x => pB (x.cls = k)
def zeroC : Chg := ⟨emp, [], []⟩
/-- Changes in order, each of which changes something. -/
def orderedP (c : List Chg) : Prop := (∀ i x y, c[i]? = some x → c[i + 1]? = some y → sLt x.cls y.cls = true) ∧ ∀ x ∈ c, x.bef ≠ x.aft
theorem ordered_pair : ∀ {c : List Chg}, (∀ i x y, c[i]? = some x → c[i + 1]? = some y → sLt x.cls y.cls = true) ↔ c.Pairwise fun x y => sLt x.cls y.cls = true
  | [] => ⟨fun _ => List.Pairwise.nil, fun _ i x y h => by simp at h⟩
  | x :: c => by
    constructor
    · intro h
      have ih := (ordered_pair (c := c)).1 fun i a b h1 h2 => h (i + 1) a b (by simpa using h1) (by simpa using h2)
      refine List.pairwise_cons.2 ⟨fun y hy => ?_, ih⟩
      cases c with
      | nil => cases hy
      | cons z c =>
        have h1 := h 0 x z rfl rfl
        rcases List.mem_cons.1 hy with e | hy
        · subst e; exact h1
        · exact sLt_trans h1 ((List.pairwise_cons.1 ih).1 y hy)
    · intro h i a b h1 h2
      obtain ⟨hi, rfl⟩ := List.getElem?_eq_some_iff.1 h1
      obtain ⟨hj, rfl⟩ := List.getElem?_eq_some_iff.1 h2
      exact List.pairwise_iff_getElem.1 h i (i + 1) hi hj (by omega)
theorem find_mem {c : List Chg} {k : Str} {x : Chg} (h : findC c k = some x) : x ∈ c ∧ x.cls = k := ⟨List.mem_of_find?_eq_some h, by simpa using List.find?_some h⟩
theorem find_none {c : List Chg} {k : Str} (h : findC c k = none) : ¬ k ∈ c.map Chg.cls := fun hk => by
  obtain ⟨x, hx, e⟩ := List.mem_map.1 hk
  have := List.find?_eq_none.1 h x hx
  rw [pB_t e] at this; simp at this
theorem find_of {c : List Chg} (h : c.Pairwise fun x y => sLt x.cls y.cls = true) {x : Chg} (hx : x ∈ c) : findC c x.cls = some x := by
  cases hf : findC c x.cls with
  | none => exact absurd (List.mem_map.2 ⟨x, hx, rfl⟩) (find_none hf)
  | some y =>
    obtain ⟨h1, h2⟩ := find_mem hf
    obtain ⟨i, hi⟩ := List.getElem?_of_mem hx
    obtain ⟨j, hj⟩ := List.getElem?_of_mem h1
    obtain ⟨hi', rfl⟩ := List.getElem?_eq_some_iff.1 hi
    obtain ⟨hj', rfl⟩ := List.getElem?_eq_some_iff.1 hj
    rw [List.pairwise_iff_getElem] at h
    rcases Nat.lt_trichotomy i j with k | k | k
    · have := h i j hi' hj' k; rw [h2, sLt_irr] at this; cases this
    · subst k; rfl
    · have := h j i hj' hi' k; rw [h2, sLt_irr] at this; cases this
noncomputable def appAt (l : List Sess) (c : List Chg) (i : Nat) : Int := match c[i]? with
  | some x => if pB (x.bef = ofC l x.cls) then (if (ofC x.aft x.cls).length ≠ x.aft.length then 1 else 0) else 62
  | none => 0
noncomputable def appG (l : List Sess) (c : List Chg) (k : Str) : List Sess := match findC c k with
  | some x => x.aft
  | none => ofC l k
noncomputable def appL (l : List Sess) (c : List Chg) : List Sess := (clsOf (c.map Chg.cls ++ l.map Sess.cls)).flatMap (appG l c)
noncomputable def applE (l : List Sess) (c : List Chg) (w : Int) : Int :=
  if validE l w ≠ 0 then validE l w else if pB (orderedP c) then (if firstE (appAt l c) c.length ≠ 0 then firstE (appAt l c) c.length else validE (appL l c) w) else 63
noncomputable def applV (l : List Sess) (c : List Chg) (w : Int) : List Sess := if applE l c w = 0 then appL l c else []
noncomputable def diffE (a b : List Sess) (w : Int) : Int := if validE a w ≠ 0 then validE a w else validE b w
noncomputable def diffV (a b : List Sess) (w : Int) : List Chg := if diffE a b w = 0 then chgV a b else []
def invC (c : List Chg) : List Chg := c.map fun x => ⟨x.cls, x.aft, x.bef⟩
noncomputable def joinX (c d : List Chg) (k : Str) : Chg := match findC c k, findC d k with
  | some x, some y => ⟨k, x.bef, y.aft⟩
  | some x, none => ⟨k, x.bef, x.aft⟩
  | none, some y => ⟨k, y.bef, y.aft⟩
  | none, none => ⟨k, [], []⟩
noncomputable def joinG (c d : List Chg) (k : Str) : Option Chg := if pB ((joinX c d k).bef = (joinX c d k).aft) then none else some (joinX c d k)
noncomputable def joinL (c d : List Chg) : List Chg := (clsOf (c.map Chg.cls ++ d.map Chg.cls)).filterMap (joinG c d)
def joinBad (c d : List Chg) : Prop := ∃ x ∈ c, ∃ y, findC d x.cls = some y ∧ x.aft ≠ y.bef
noncomputable def joinE (c d : List Chg) : Int := if pB (orderedP c ∧ orderedP d) then (if pB (joinBad c d) then 62 else 0) else 63
noncomputable def joinV (c d : List Chg) : List Chg := if joinE c d = 0 then joinL c d else []

theorem chg_mem {a b : List Sess} {K : List Str} {x : Chg} (h : x ∈ chgD a b K) : x.cls ∈ K ∧ x.bef = ofC a x.cls ∧ x.aft = ofC b x.cls ∧ x.bef ≠ x.aft := by
  obtain ⟨k, hk, h⟩ := List.mem_filterMap.1 h
  split at h
  · cases h
  · rename_i hn
    injection h with h; subst h
    exact ⟨hk, rfl, rfl, by simpa using hn⟩
theorem chg_sorted {a b : List Sess} : ∀ {K : List Str}, strS K → (chgD a b K).Pairwise fun x y => sLt x.cls y.cls = true
  | [], _ => List.Pairwise.nil
  | k :: K, h => by
    rw [strS, List.pairwise_cons] at h
    have ih := chg_sorted (a := a) (b := b) h.2
    unfold chgD at ih ⊢
    rw [List.filterMap_cons]
    split
    · exact ih
    · rename_i x hx
      split at hx
      · cases hx
      · injection hx with hx; subst hx
        exact List.pairwise_cons.2 ⟨fun y hy => h.1 _ (chg_mem hy).1, ih⟩
theorem chg_ordered {a b : List Sess} {K : List Str} (h : strS K) : orderedP (chgD a b K) := ⟨ordered_pair.2 (chg_sorted h), fun x hx => (chg_mem hx).2.2.2⟩
theorem chg_find {a b : List Sess} {K : List Str} (h : strS K) (hK : ∀ k, ofC a k ≠ ofC b k → k ∈ K) {k : Str} : findC (chgD a b K) k = if pB (ofC a k = ofC b k) then none else some ⟨k, ofC a k, ofC b k⟩ := by
  by_cases e : ofC a k = ofC b k
  · rw [if_pos (pB_t e)]
    cases hf : findC (chgD a b K) k with
    | none => rfl
    | some x =>
      obtain ⟨h1, h2⟩ := find_mem hf
      obtain ⟨-, h3, h4, h5⟩ := chg_mem h1
      exact absurd (by rw [h3, h4, h2, e]) h5
  · rw [if_neg (by rw [pB_f e]; simp)]
    have hx : (⟨k, ofC a k, ofC b k⟩ : Chg) ∈ chgD a b K := List.mem_filterMap.2 ⟨k, hK k e, by rw [if_neg (by rw [pB_f e]; simp)]⟩
    exact find_of (chg_sorted h) hx
/-- The changes lead from one list to the other. -/
theorem chg_apply {a b : List Sess} {w : Int} (ha : validE a w = 0) (hb : validE b w = 0) : applE a (chgV a b) w = 0 ∧ appL a (chgV a b) = b := by
  have hs : strS (clsU a b) := clsOf_str
  have e : appL a (chgV a b) = b := by
    unfold appL
    have hg : appG a (chgV a b) = ofC b := by
      funext k
      unfold appG chgV
      rw [chg_find hs fun k hk => diff_in hk]
      by_cases e : ofC a k = ofC b k
      · rw [if_pos (pB_t e)]; exact e
      · rw [if_neg (by rw [pB_f e]; simp)]
    rw [hg]
    refine blocks (valid_parts hb).2.2.2.1 clsOf_str fun s hs' => ?_
    rw [clsOf_mem, List.mem_append]
    by_cases hk : s.cls ∈ a.map Sess.cls
    · exact .inr hk
    · refine .inl (List.mem_map.2 ⟨⟨s.cls, ofC a s.cls, ofC b s.cls⟩, ?_, rfl⟩)
      have hne : ofC a s.cls ≠ ofC b s.cls := fun e => by
        have : s ∈ ofC a s.cls := by rw [e]; exact ofC_mem.2 ⟨hs', rfl⟩
        exact hk (List.mem_map.2 ⟨s, (ofC_mem.1 this).1, rfl⟩)
      exact List.mem_filterMap.2 ⟨s.cls, diff_in hne, by rw [if_neg (by rw [pB_f hne]; simp)]⟩
  refine ⟨?_, e⟩
  unfold applE
  have ho : orderedP (chgV a b) := chg_ordered hs
  rw [if_neg (by simp [ha]), if_pos (pB_t ho), e]
  have h0 : firstE (appAt a (chgV a b)) (chgV a b).length = 0 := firstE_zero fun i hi => by
    obtain ⟨x, hx⟩ := getE hi
    obtain ⟨-, h1, h2, -⟩ := chg_mem (List.mem_of_getElem? hx)
    unfold appAt
    rw [hx]
    dsimp only
    rw [if_pos (pB_t h1), if_neg]
    rw [h2, ofC_idem]; simp
  rw [if_neg (by simp [h0])]; exact hb
theorem chg_inv {a b : List Sess} : invC (chgV a b) = chgV b a := by
  have e : clsU b a = clsU a b := clsOf_same fun x => by rw [List.mem_append, List.mem_append]; exact or_comm
  unfold chgV
  rw [e]
  generalize clsU a b = K
  unfold invC chgD
  rw [List.map_filterMap]
  congr 1
  funext k
  by_cases e : ofC a k = ofC b k
  · rw [if_pos (pB_t e), if_pos (pB_t e.symm)]; rfl
  · rw [if_neg (by rw [pB_f e]; simp), if_neg (by rw [pB_f fun k => e k.symm]; simp)]; rfl
/-- Joined changes lead from the first list to the third. -/
theorem chg_join {a b c : List Sess} : joinE (chgV a b) (chgV b c) = 0 ∧ joinL (chgV a b) (chgV b c) = chgV a c := by
  have f1 : ∀ k, findC (chgV a b) k = if pB (ofC a k = ofC b k) then none else some ⟨k, ofC a k, ofC b k⟩ := fun k => chg_find clsOf_str fun k hk => diff_in hk
  have f2 : ∀ k, findC (chgV b c) k = if pB (ofC b k = ofC c k) then none else some ⟨k, ofC b k, ofC c k⟩ := fun k => chg_find clsOf_str fun k hk => diff_in hk
  constructor
  · unfold joinE
    rw [if_pos (pB_t ⟨chg_ordered clsOf_str, chg_ordered clsOf_str⟩), if_neg]
    rw [pB_f]
    · simp
    · rintro ⟨x, hx, y, hy, hne⟩
      obtain ⟨-, -, h1, -⟩ := chg_mem hx
      rw [f2] at hy
      split at hy
      · cases hy
      · injection hy with hy; subst hy
        exact hne h1
  · unfold joinL
    have hg : joinG (chgV a b) (chgV b c) = fun k => if pB (ofC a k = ofC c k) then none else some ⟨k, ofC a k, ofC c k⟩ := by
      funext k
      have hx : (joinX (chgV a b) (chgV b c) k).bef = ofC a k ∧ (joinX (chgV a b) (chgV b c) k).aft = ofC c k ∨ (ofC a k = ofC c k ∧ (joinX (chgV a b) (chgV b c) k).bef = (joinX (chgV a b) (chgV b c) k).aft) := by
        unfold joinX
        rw [f1, f2]
        by_cases e1 : ofC a k = ofC b k
        · rw [if_pos (pB_t e1)]
          by_cases e2 : ofC b k = ofC c k
          · rw [if_pos (pB_t e2)]; exact .inr ⟨e1.trans e2, rfl⟩
          · rw [if_neg (by rw [pB_f e2]; simp)]; exact .inl ⟨e1.symm, rfl⟩
        · rw [if_neg (by rw [pB_f e1]; simp)]
          by_cases e2 : ofC b k = ofC c k
          · rw [if_pos (pB_t e2)]; exact .inl ⟨rfl, e2⟩
          · rw [if_neg (by rw [pB_f e2]; simp)]; exact .inl ⟨rfl, rfl⟩
      have hc : (joinX (chgV a b) (chgV b c) k).cls = k := by
        unfold joinX
        split <;> rfl
      unfold joinG
      generalize joinX (chgV a b) (chgV b c) k = x at *
      obtain ⟨x1, x2, x3⟩ := x
      simp only at hx hc
      subst hc
      rcases hx with ⟨rfl, rfl⟩ | ⟨h1, rfl⟩
      · rfl
      · rw [if_pos (pB_t h1), if_pos (pB_t rfl)]
    rw [hg]
    refine chgD_same (a := a) (b := c) clsOf_str clsOf_str fun k hk => ⟨?_, diff_in hk⟩
    rw [clsOf_mem, List.mem_append]
    by_cases e1 : ofC a k = ofC b k
    · have e2 : ofC b k ≠ ofC c k := fun e2 => hk (e1.trans e2)
      exact .inr (List.mem_map.2 ⟨_, List.mem_filterMap.2 ⟨k, diff_in e2, by rw [if_neg (by rw [pB_f e2]; simp)]⟩, rfl⟩)
    · exact .inl (List.mem_map.2 ⟨_, List.mem_filterMap.2 ⟨k, diff_in e1, by rw [if_neg (by rw [pB_f e1]; simp)]⟩, rfl⟩)
theorem chg_none {a : List Sess} : chgV a a = [] := by
  unfold chgV chgD
  rw [List.filterMap_eq_nil_iff]
  intro k _
  rw [if_pos (pB_t rfl)]
end Go.Proofs.YtbcacaodfpgflaaGreatDoor.Cw

/-
  Contracts: equal lists; the sessions of a class; masked and spliced lists.
-/
namespace Go.Proofs.YtbcacaodfpgflaaGreatDoor.Cw
open Go Go.Cw Go.Proofs
set_option linter.unusedVariables false
set_option maxRecDepth 100000
set_option maxHeartbeats 8000000

theorem c_equal (a b : List Sess) (ha : a.length ≤ 2199023255552) (hb : b.length ≤ 2199023255552) : PCall Tryz.prog 30 [.pv (encSess a), .pv (encSess b)] (fun r => r = vbool (pB (a = b))) := by
  refine acall_of tok mixed 26 rfl (fn := Tryz.f30) (c := Tryz.f30.body.getD .skip) (by kernel_rfl) (by kernel_rfl) (by kernel_rfl) rfl 0 rfl ?_
  repeat' (first | refine o1 ?_ | refine o2 ?_ | refine k1 ?_ | refine k2 ?_ | refine k3 ?_ | refine k4 ?_ | refine k6 ?_ | refine k7 ?_ | refine k8 ?_ | refine And.intro ?_ ?_ | exact trivial | refine o3 ?_ | refine o4 ?_ | refine o5 ?_ | refine o6 ?_ | refine k5 ?_ | (intro h; first | exact Bool.noConfusion h | exact nz _ h | exact nl h | (simp at h; done) | (simp at h; first | (exfalso; omega) | skip) | skip) | (change retOk _ _ _ _; refine ret_pure rfl trivial ?_) | exact (rfl : allOne _ = true) | (refine (?_ : (0 : Int) ≤ _); omega) | (refine (?_ : _ ≠ _); omega) | (refine (?_ : srcLen _ = rowsLen _); rfl) | exact Nat.le_of_ble_eq_true rfl | exact (by kernel_rfl : drawOk _ _ = true) | refine eqv_len_map ?_ | refine eqv_size ?_ | refine eqv_put (eqv_ck ?_) | refine eqv_zero ?_ | refine eqv_wrap (by omega) (by omega) ?_ | refine eqv_u64 (by omega) (by omega) ?_ | refine eqv_u8 (by omega) (by omega) ?_ | refine eqv_to _ (set_map rfl rfl) ?_ | refine ⟨_, _, (by first | rfl | assumption), at_map (by assumption), ?_⟩ | refine ⟨_, _, (by first | rfl | assumption), (by assumption), ?_⟩ | refine ⟨_, at_map (by assumption), (by decide), ?_⟩ | refine ⟨_, at_map (by assumption), ?_⟩ | (refine (?_ : _ ≤ 140737488355328); simp [rowsLen] <;> omega) | (refine (?_ : _ ≤ 9223372036854775807); simp [rowsLen] <;> omega) | (refine (?_ : _ = rowsLen _); simp [rowsLen] <;> omega) | refine eqv_to _ (app_row rfl) (eqv_to _ app_len ?_) | refine eqv_to _ (app_first rfl) (eqv_to 1 rfl ?_) | refine idx_sl (at_map (by assumption)) (by omega) ?_ | refine idx_ms _ (by first | rfl | assumption) (by first | assumption | omega) ?_ | fail)
  · exact congrArg vbool (pB_f fun e => by subst e; simp_all).symm
  · have hl : a.length = b.length := by omega
    refine loop_at (fun i : Nat => [(13, vint .i64 i)]) (fun _ => []) (fun i => i ≤ a.length ∧ ∀ j, j < i → ∀ x y, a[j]? = some x → b[j]? = some y → x = y) (fun i => a.length - i) 0 ⟨Nat.zero_le _, fun j hj => by omega⟩ (by repeat' (first | exact trivial | exact rfl | exact ⟨_, rfl, ALe.refl⟩ | refine And.intro ?_ ?_)) (by repeat' (first | exact trivial | exact rfl | exact ⟨_, rfl, ALe.refl⟩ | refine And.intro ?_ ?_)) ?_
    intro i ⟨hi, hall⟩
    rcases Nat.lt_or_ge i a.length with hlt | hge
    · obtain ⟨x, hx⟩ := getE hlt
      obtain ⟨y, hy⟩ := getE (show i < b.length by omega)
      repeat' (first | refine o1 ?_ | refine o2 ?_ | refine k1 ?_ | refine k2 ?_ | refine k3 ?_ | refine k4 ?_ | refine k6 ?_ | refine k7 ?_ | refine k8 ?_ | refine And.intro ?_ ?_ | exact trivial | refine o3 ?_ | refine o4 ?_ | refine o5 ?_ | refine o6 ?_ | refine k5 ?_ | (intro h; first | exact Bool.noConfusion h | exact nz _ h | exact nl h | (simp at h; done) | (simp at h; first | (exfalso; omega) | skip) | skip) | (change retOk _ _ _ _; refine ret_pure rfl trivial ?_) | exact (rfl : allOne _ = true) | (refine (?_ : (0 : Int) ≤ _); omega) | (refine (?_ : _ ≠ _); omega) | (refine (?_ : srcLen _ = rowsLen _); rfl) | exact Nat.le_of_ble_eq_true rfl | exact (by kernel_rfl : drawOk _ _ = true) | refine eqv_len_map ?_ | refine eqv_size ?_ | refine eqv_put (eqv_ck ?_) | refine eqv_zero ?_ | refine eqv_wrap (by omega) (by omega) ?_ | refine eqv_u64 (by omega) (by omega) ?_ | refine eqv_u8 (by omega) (by omega) ?_ | refine eqv_to _ (set_map rfl rfl) ?_ | refine ⟨_, _, (by first | rfl | assumption), at_map (by assumption), ?_⟩ | refine ⟨_, _, (by first | rfl | assumption), (by assumption), ?_⟩ | refine ⟨_, at_map (by assumption), (by decide), ?_⟩ | refine ⟨_, at_map (by assumption), ?_⟩ | (refine (?_ : _ ≤ 140737488355328); simp [rowsLen] <;> omega) | (refine (?_ : _ ≤ 9223372036854775807); simp [rowsLen] <;> omega) | (refine (?_ : _ = rowsLen _); simp [rowsLen] <;> omega) | refine eqv_to _ (app_row rfl) (eqv_to _ app_len ?_) | refine eqv_to _ (app_first rfl) (eqv_to 1 rfl ?_) | refine idx_sl (at_map (by assumption)) (by omega) ?_ | refine idx_ms _ (by first | rfl | assumption) (by first | assumption | omega) ?_ | fail)
      · have hne : ¬ x = y := sess_ne h
        exact congrArg vbool (pB_f fun e => hne (by subst e; rw [hx] at hy; injection hy)).symm
      · have he : x = y := sess_eq2 h
        exact ⟨i + 1, ⟨by omega, all_lt_succ hall fun x' y' q1 q2 => by rw [hx] at q1; cases q1; rw [hy] at q2; cases q2; exact he⟩, by omega, back [] rfl rfl trivial (by repeat' (first | exact trivial | exact rfl | exact ⟨_, rfl, ALe.refl⟩ | refine And.intro ?_ ?_))⟩
    · repeat' (first | refine o1 ?_ | refine o2 ?_ | refine k1 ?_ | refine k2 ?_ | refine k3 ?_ | refine k4 ?_ | refine k6 ?_ | refine k7 ?_ | refine k8 ?_ | refine And.intro ?_ ?_ | exact trivial | refine o3 ?_ | refine o4 ?_ | refine o5 ?_ | refine o6 ?_ | refine k5 ?_ | (intro h; first | exact Bool.noConfusion h | exact nz _ h | exact nl h | (simp at h; done) | (simp at h; first | (exfalso; omega) | skip) | skip) | (change retOk _ _ _ _; refine ret_pure rfl trivial ?_) | exact (rfl : allOne _ = true) | (refine (?_ : (0 : Int) ≤ _); omega) | (refine (?_ : _ ≠ _); omega) | (refine (?_ : srcLen _ = rowsLen _); rfl) | exact Nat.le_of_ble_eq_true rfl | exact (by kernel_rfl : drawOk _ _ = true) | refine eqv_len_map ?_ | refine eqv_size ?_ | refine eqv_put (eqv_ck ?_) | refine eqv_zero ?_ | refine eqv_wrap (by omega) (by omega) ?_ | refine eqv_u64 (by omega) (by omega) ?_ | refine eqv_u8 (by omega) (by omega) ?_ | refine eqv_to _ (set_map rfl rfl) ?_ | refine ⟨_, _, (by first | rfl | assumption), at_map (by assumption), ?_⟩ | refine ⟨_, _, (by first | rfl | assumption), (by assumption), ?_⟩ | refine ⟨_, at_map (by assumption), (by decide), ?_⟩ | refine ⟨_, at_map (by assumption), ?_⟩ | (refine (?_ : _ ≤ 140737488355328); simp [rowsLen] <;> omega) | (refine (?_ : _ ≤ 9223372036854775807); simp [rowsLen] <;> omega) | (refine (?_ : _ = rowsLen _); simp [rowsLen] <;> omega) | refine eqv_to _ (app_row rfl) (eqv_to _ app_len ?_) | refine eqv_to _ (app_first rfl) (eqv_to 1 rfl ?_) | refine idx_sl (at_map (by assumption)) (by omega) ?_ | refine idx_ms _ (by first | rfl | assumption) (by first | assumption | omega) ?_ | fail)
      exact congrArg vbool (pB_t (lists_at hl fun j hj => hall j (by omega))).symm
section
variable {P : Program} {f : FuncId} {H : Heap} {K : AV → Heap → Prop} {id z ty : Nat} {rows : List (List PV)} {v : AV}
end
theorem ofC_t {l : List Sess} {c : Str} {i : Nat} {s : Sess} (hs : l[i]? = some s) (h : sEq s.cls c = true) : ofC (l.take (i + 1)) c = ofC (l.take i) c ++ [s] := by
  unfold ofC; rw [take_snoc hs, List.filter_append]; simp [sEq_iff.1 h]
theorem ofC_f {l : List Sess} {c : Str} {i : Nat} {s : Sess} (hs : l[i]? = some s) (h : sEq s.cls c = false) : ofC (l.take (i + 1)) c = ofC (l.take i) c := by
  unfold ofC; rw [take_snoc hs, List.filter_append]; simp [sEq_f.1 h]
theorem ofC_len {l : List Sess} {c : Str} {i : Nat} : (ofC (l.take i) c).length ≤ i := by
  have h1 : (ofC (l.take i) c).length ≤ (l.take i).length := List.length_filter_le ..
  have h2 : (l.take i).length ≤ i := List.length_take_le ..
  omega
theorem c_of0 (l : List Sess) (c : Str) (hl : l.length ≤ 1000000000) : PCall Tryz.prog 29 [.pv (encSess l), .pv (es c)] (fun r => Leq r (.pv (encSess (ofC l c)))) := by
  refine acall_of tok mixed 24 rfl (fn := Tryz.f29) (c := Tryz.f29.body.getD .skip) (by kernel_rfl) (by kernel_rfl) (by kernel_rfl) rfl 0 rfl ?_
  repeat' (first | refine o1 ?_ | refine o2 ?_ | refine k1 ?_ | refine k2 ?_ | refine k3 ?_ | refine k4 ?_ | refine k6 ?_ | refine k7 ?_ | refine k8 ?_ | refine And.intro ?_ ?_ | exact trivial | refine o3 ?_ | refine o4 ?_ | refine o5 ?_ | refine o6 ?_ | refine k5 ?_ | (intro h; first | exact Bool.noConfusion h | exact nz _ h | exact nl h | (simp at h; done) | (simp at h; first | (exfalso; omega) | skip) | skip) | (change retOk _ _ _ _; refine ret_pure rfl trivial ?_) | exact (rfl : allOne _ = true) | (refine (?_ : (0 : Int) ≤ _); omega) | (refine (?_ : _ ≠ _); omega) | (refine (?_ : srcLen _ = rowsLen _); rfl) | exact Nat.le_of_ble_eq_true rfl | exact (by kernel_rfl : drawOk _ _ = true) | refine eqv_len_map ?_ | refine eqv_size ?_ | refine eqv_put (eqv_ck ?_) | refine eqv_zero ?_ | refine eqv_wrap (by omega) (by omega) ?_ | refine eqv_u64 (by omega) (by omega) ?_ | refine eqv_u8 (by omega) (by omega) ?_ | refine eqv_to _ (set_map rfl rfl) ?_ | refine ⟨_, _, (by first | rfl | assumption), at_map (by assumption), ?_⟩ | refine ⟨_, _, (by first | rfl | assumption), (by assumption), ?_⟩ | refine ⟨_, at_map (by assumption), (by decide), ?_⟩ | refine ⟨_, at_map (by assumption), ?_⟩ | (refine (?_ : _ ≤ 140737488355328); simp [rowsLen] <;> omega) | (refine (?_ : _ ≤ 9223372036854775807); simp [rowsLen] <;> omega) | (refine (?_ : _ = rowsLen _); simp [rowsLen] <;> omega) | refine eqv_to _ (app_row rfl) (eqv_to _ app_len ?_) | refine eqv_to _ (app_first rfl) (eqv_to 1 rfl ?_) | refine idx_sl (at_map (by assumption)) (by omega) ?_ | refine idx_ms _ (by first | rfl | assumption) (by first | assumption | omega) ?_ | fail)
  refine loop_for (fun i : Nat => [(0, .pv (encSess l)), (1, .pv (es c)), (5, slP 0 6 ((ofC (l.take i) c).map Sess.row)), (8, .pv (encSess l)), (9, vint .i64 l.length), (10, vint .i64 i)]) (fun i => [obP 51 6 ((ofC (l.take i) c).map Sess.row)]) (fun i => i ≤ l.length) (fun i => l.length - i) 0 (Nat.zero_le _) ?_ ?_
  · exact back [0] rfl rfl (by repeat' (first | exact trivial | exact rfl | exact ren_get rfl | refine kept_ob rfl ?_ | exact ⟨_, rfl, ALe.refl⟩ | refine And.intro ?_ ?_)) (by repeat' (first | exact trivial | exact rfl | exact ren_get rfl | refine kept_ob rfl ?_ | exact ⟨_, rfl, ALe.refl⟩ | refine And.intro ?_ ?_))
  intro i hi
  rcases Nat.lt_or_ge i l.length with hlt | hge
  · obtain ⟨s, hs⟩ := getE hlt
    have ht := ofC_t (c := c) hs
    have hf := ofC_f (c := c) hs
    have hn := ofC_len (l := l) (c := c) (i := i)
    generalize ofC (l.take i) c = L at *
    repeat' (first | (refine fv_sl ?_) | (refine fh_ob ?_) | ((refine o_app rfl rfl rfl rfl rfl rfl rfl rfl rfl rfl rfl (by rw [List.length_map]; omega) (by rw [List.length_map]; omega) ?_)) | refine o1 ?_ | refine o2 ?_ | refine k1 ?_ | refine k2 ?_ | refine k3 ?_ | refine k4 ?_ | refine k6 ?_ | refine k7 ?_ | refine k8 ?_ | refine And.intro ?_ ?_ | exact trivial | refine o3 ?_ | refine o4 ?_ | refine o5 ?_ | refine o6 ?_ | refine k5 ?_ | (intro h; first | exact Bool.noConfusion h | exact nz _ h | exact nl h | (simp at h; done) | (simp at h; first | (exfalso; omega) | skip) | skip) | (change retOk _ _ _ _; refine ret_pure rfl trivial ?_) | exact (rfl : allOne _ = true) | (refine (?_ : (0 : Int) ≤ _); omega) | (refine (?_ : _ ≠ _); omega) | (refine (?_ : srcLen _ = rowsLen _); rfl) | exact Nat.le_of_ble_eq_true rfl | exact (by kernel_rfl : drawOk _ _ = true) | refine eqv_len_map ?_ | refine eqv_size ?_ | refine eqv_put (eqv_ck ?_) | refine eqv_zero ?_ | refine eqv_wrap (by omega) (by omega) ?_ | refine eqv_u64 (by omega) (by omega) ?_ | refine eqv_u8 (by omega) (by omega) ?_ | refine eqv_to _ (set_map rfl rfl) ?_ | refine ⟨_, _, (by first | rfl | assumption), at_map (by assumption), ?_⟩ | refine ⟨_, _, (by first | rfl | assumption), (by assumption), ?_⟩ | refine ⟨_, at_map (by assumption), (by decide), ?_⟩ | refine ⟨_, at_map (by assumption), ?_⟩ | (refine (?_ : _ ≤ 140737488355328); simp [rowsLen] <;> omega) | (refine (?_ : _ ≤ 9223372036854775807); simp [rowsLen] <;> omega) | (refine (?_ : _ = rowsLen _); simp [rowsLen] <;> omega) | refine eqv_to _ (app_row rfl) (eqv_to _ app_len ?_) | refine eqv_to _ (app_first rfl) (eqv_to 1 rfl ?_) | refine idx_sl (at_map (by assumption)) (by omega) ?_ | refine idx_ms _ (by first | rfl | assumption) (by first | assumption | omega) ?_ | fail)
    · refine ⟨i + 1, hlt, by omega, ?_⟩
      rw [ht h, map_snoc, sl_app, ob_app]
      exact back [3] rfl rfl (by repeat' (first | exact trivial | exact rfl | exact ren_get rfl | refine kept_ob rfl ?_ | exact ⟨_, rfl, ALe.refl⟩ | refine And.intro ?_ ?_)) (by repeat' (first | exact trivial | exact rfl | exact ren_get rfl | refine kept_ob rfl ?_ | exact ⟨_, rfl, ALe.refl⟩ | refine And.intro ?_ ?_))
    · refine ⟨i + 1, hlt, by omega, ?_⟩
      rw [hf h]
      exact back [0] rfl rfl (by repeat' (first | exact trivial | exact rfl | exact ren_get rfl | refine kept_ob rfl ?_ | exact ⟨_, rfl, ALe.refl⟩ | refine And.intro ?_ ?_)) (by repeat' (first | exact trivial | exact rfl | exact ren_get rfl | refine kept_ob rfl ?_ | exact ⟨_, rfl, ALe.refl⟩ | refine And.intro ?_ ?_))
  · obtain rfl : i = l.length := by omega
    rw [List.take_length]
    repeat' (first | (refine fv_sl ?_) | (refine fh_ob ?_) | refine o1 ?_ | refine o2 ?_ | refine k1 ?_ | refine k2 ?_ | refine k3 ?_ | refine k4 ?_ | refine k6 ?_ | refine k7 ?_ | refine k8 ?_ | refine And.intro ?_ ?_ | exact trivial | refine o3 ?_ | refine o4 ?_ | refine o5 ?_ | refine o6 ?_ | refine k5 ?_ | (intro h; first | exact Bool.noConfusion h | exact nz _ h | exact nl h | (simp at h; done) | (simp at h; first | (exfalso; omega) | skip) | skip) | (change retOk _ _ _ _; refine ret_pure rfl trivial ?_) | exact (rfl : allOne _ = true) | (refine (?_ : (0 : Int) ≤ _); omega) | (refine (?_ : _ ≠ _); omega) | (refine (?_ : srcLen _ = rowsLen _); rfl) | exact Nat.le_of_ble_eq_true rfl | exact (by kernel_rfl : drawOk _ _ = true) | refine eqv_len_map ?_ | refine eqv_size ?_ | refine eqv_put (eqv_ck ?_) | refine eqv_zero ?_ | refine eqv_wrap (by omega) (by omega) ?_ | refine eqv_u64 (by omega) (by omega) ?_ | refine eqv_u8 (by omega) (by omega) ?_ | refine eqv_to _ (set_map rfl rfl) ?_ | refine ⟨_, _, (by first | rfl | assumption), at_map (by assumption), ?_⟩ | refine ⟨_, _, (by first | rfl | assumption), (by assumption), ?_⟩ | refine ⟨_, at_map (by assumption), (by decide), ?_⟩ | refine ⟨_, at_map (by assumption), ?_⟩ | (refine (?_ : _ ≤ 140737488355328); simp [rowsLen] <;> omega) | (refine (?_ : _ ≤ 9223372036854775807); simp [rowsLen] <;> omega) | (refine (?_ : _ = rowsLen _); simp [rowsLen] <;> omega) | refine eqv_to _ (app_row rfl) (eqv_to _ app_len ?_) | refine eqv_to _ (app_first rfl) (eqv_to 1 rfl ?_) | refine idx_sl (at_map (by assumption)) (by omega) ?_ | refine idx_ms _ (by first | rfl | assumption) (by first | assumption | omega) ?_ | fail)
    exact ret_sl rfl ⟨ALe.refl⟩ leq_down
theorem c_of (l : List Sess) (c : Str) (hl : l.length ≤ 1000000000) : PCall Tryz.prog 29 [.pv (encSess l), .pv (es c)] (fun r => r = .pv (encSess (ofC l c))) := (c_of0 l c hl).weak fun r k => ⟨_, k.le, rfl⟩

def andS (m x : Int) : Int := bits .and .i64 x m
section
variable {a b : List Sess} {w k : Int}
end
end Go.Proofs.YtbcacaodfpgflaaGreatDoor.Cw

/-
  Contracts: classes, Diff, by the program.
-/
namespace Go.Proofs.YtbcacaodfpgflaaGreatDoor.Cw
open Go Go.Cw Go.Proofs
set_option linter.unusedVariables false
set_option maxRecDepth 100000
set_option maxHeartbeats 8000000

def encLs (L : List (List Sess)) : PV := .sl 1 (L.map fun l => [encSess l])
theorem sortS_len (l : List Str) : (sortS l).length = l.length := (sortS_perm l).length_eq
theorem sortS_ne {l : List Str} (h : l ≠ []) : sortS l ≠ [] := fun e => h (List.eq_nil_of_length_eq_zero (by rw [← sortS_len, e]; rfl))
theorem c_sort2 (ss : List ByteArray) (hne : ss ≠ []) (hl : ss.length ≤ 1000000) :
    ACall Tryz.prog 51 [.ms 0 1 0 (sortS ss).length] [some ⟨9, 1, false, .p (ss.map strRow)⟩] fun r H' => r = .tup [] ∧ H' = [some ⟨9, 1, false, .p ((sortS ss).map strRow)⟩] := by
  rw [sortS_len]; exact c_sort ss hne (by omega)
theorem c_classes0 (c : List Chg) (L : List (List Sess)) (hc : c.length ≤ 1000) (hL : L.flatten.length ≤ 100000) (hn : L.length ≤ 100) : PCall Tryz.prog 28 [.pv (encChgs c), .pv (encLs L)] (fun r => Leq r (.pv (.sl 1 ((clsOf (c.map Chg.cls ++ L.flatten.map Sess.cls)).map strRow)))) := by
  refine acall_of tok mixed 47 rfl (fn := Tryz.f28) (c := Tryz.f28.body.getD .skip) (by kernel_rfl) (by kernel_rfl) (by kernel_rfl) rfl 0 rfl ?_
  repeat' (first | refine o1 ?_ | refine o2 ?_ | refine k1 ?_ | refine k2 ?_ | refine k3 ?_ | refine k4 ?_ | refine k6 ?_ | refine k7 ?_ | refine k8 ?_ | refine And.intro ?_ ?_ | exact trivial | refine o3 ?_ | refine o4 ?_ | refine o5 ?_ | refine o6 ?_ | refine k5 ?_ | (intro h; first | exact Bool.noConfusion h | exact nz _ h | exact nl h | (simp at h; done) | (simp at h; first | (exfalso; omega) | skip) | skip) | (change retOk _ _ _ _; refine ret_pure rfl trivial ?_) | exact (rfl : allOne _ = true) | (refine (?_ : (0 : Int) ≤ _); omega) | (refine (?_ : _ ≠ _); omega) | (refine (?_ : srcLen _ = rowsLen _); rfl) | exact Nat.le_of_ble_eq_true rfl | exact (by kernel_rfl : drawOk _ _ = true) | refine eqv_len_map ?_ | refine eqv_size ?_ | refine eqv_put (eqv_ck ?_) | refine eqv_zero ?_ | refine eqv_wrap (by omega) (by omega) ?_ | refine eqv_u64 (by omega) (by omega) ?_ | refine eqv_u8 (by omega) (by omega) ?_ | refine eqv_to _ (set_map rfl rfl) ?_ | refine ⟨_, _, (by first | rfl | assumption), at_map (by assumption), ?_⟩ | refine ⟨_, _, (by first | rfl | assumption), (by assumption), ?_⟩ | refine ⟨_, at_map (by assumption), (by decide), ?_⟩ | refine ⟨_, at_map (by assumption), ?_⟩ | (refine (?_ : _ ≤ 140737488355328); simp [rowsLen] <;> omega) | (refine (?_ : _ ≤ 9223372036854775807); simp [rowsLen] <;> omega) | (refine (?_ : _ = rowsLen _); simp [rowsLen] <;> omega) | refine eqv_to _ (app_row rfl) (eqv_to _ app_len ?_) | refine eqv_to _ (app_first rfl) (eqv_to 1 rfl ?_) | refine idx_sl (at_map (by assumption)) (by omega) ?_ | refine idx_ms _ (by first | rfl | assumption) (by first | assumption | omega) ?_ | fail)
  refine loop_for (fun i : Nat => [(1, .pv (encLs L)), (5, slP 0 1 (((c.take i).map Chg.cls).map strRow)), (12, .pv (encChgs c)), (13, vint .i64 c.length), (14, vint .i64 i)]) (fun i => [obP 9 1 (((c.take i).map Chg.cls).map strRow)]) (fun i => i ≤ c.length) (fun i => c.length - i) 0 (Nat.zero_le _) ?_ ?_
  · exact back [0] rfl rfl (by repeat' (first | exact trivial | exact rfl | exact ren_get rfl | refine kept_ob rfl ?_ | exact ⟨_, rfl, ALe.refl⟩ | refine And.intro ?_ ?_)) (by repeat' (first | exact trivial | exact rfl | exact ren_get rfl | refine kept_ob rfl ?_ | exact ⟨_, rfl, ALe.refl⟩ | refine And.intro ?_ ?_))
  intro i hi
  rcases Nat.lt_or_ge i c.length with hlt | hge
  · obtain ⟨x, hx⟩ := getE hlt
    have htk := take_snoc hx
    have htl : (c.take i).length ≤ i := List.length_take_le ..
    generalize c.take i = A at *
    repeat' (first | (refine fv_sl ?_) | (refine fh_ob ?_) | ((refine o_app rfl rfl rfl rfl rfl rfl rfl rfl rfl rfl rfl (by simp; omega) (by simp; omega) ?_)) | refine o1 ?_ | refine o2 ?_ | refine k1 ?_ | refine k2 ?_ | refine k3 ?_ | refine k4 ?_ | refine k6 ?_ | refine k7 ?_ | refine k8 ?_ | refine And.intro ?_ ?_ | exact trivial | refine o3 ?_ | refine o4 ?_ | refine o5 ?_ | refine o6 ?_ | refine k5 ?_ | (intro h; first | exact Bool.noConfusion h | exact nz _ h | exact nl h | (simp at h; done) | (simp at h; first | (exfalso; omega) | skip) | skip) | (change retOk _ _ _ _; refine ret_pure rfl trivial ?_) | exact (rfl : allOne _ = true) | (refine (?_ : (0 : Int) ≤ _); omega) | (refine (?_ : _ ≠ _); omega) | (refine (?_ : srcLen _ = rowsLen _); rfl) | exact Nat.le_of_ble_eq_true rfl | exact (by kernel_rfl : drawOk _ _ = true) | refine eqv_len_map ?_ | refine eqv_size ?_ | refine eqv_put (eqv_ck ?_) | refine eqv_zero ?_ | refine eqv_wrap (by omega) (by omega) ?_ | refine eqv_u64 (by omega) (by omega) ?_ | refine eqv_u8 (by omega) (by omega) ?_ | refine eqv_to _ (set_map rfl rfl) ?_ | refine ⟨_, _, (by first | rfl | assumption), at_map (by assumption), ?_⟩ | refine ⟨_, _, (by first | rfl | assumption), (by assumption), ?_⟩ | refine ⟨_, at_map (by assumption), (by decide), ?_⟩ | refine ⟨_, at_map (by assumption), ?_⟩ | (refine (?_ : _ ≤ 140737488355328); simp [rowsLen] <;> omega) | (refine (?_ : _ ≤ 9223372036854775807); simp [rowsLen] <;> omega) | (refine (?_ : _ = rowsLen _); simp [rowsLen] <;> omega) | refine eqv_to _ (app_row rfl) (eqv_to _ app_len ?_) | refine eqv_to _ (app_first rfl) (eqv_to 1 rfl ?_) | refine idx_sl (at_map (by assumption)) (by omega) ?_ | refine idx_ms _ (by first | rfl | assumption) (by first | assumption | omega) ?_ | fail)
    refine ⟨i + 1, hlt, by omega, ?_⟩
    rw [htk, map_snoc, map_snoc, sl_app, ob_app]
    exact back [3] rfl rfl (by repeat' (first | exact trivial | exact rfl | exact ren_get rfl | refine kept_ob rfl ?_ | exact ⟨_, rfl, ALe.refl⟩ | refine And.intro ?_ ?_)) (by repeat' (first | exact trivial | exact rfl | exact ren_get rfl | refine kept_ob rfl ?_ | exact ⟨_, rfl, ALe.refl⟩ | (refine slot_eq rfl (congrArg (vint .i64) ?_); omega) | refine And.intro ?_ ?_))
  · obtain rfl : i = c.length := by omega
    rw [List.take_length]
    repeat' (first | (refine fv_sl ?_) | (refine fh_ob ?_) | refine o1 ?_ | refine o2 ?_ | refine k1 ?_ | refine k2 ?_ | refine k3 ?_ | refine k4 ?_ | refine k6 ?_ | refine k7 ?_ | refine k8 ?_ | refine And.intro ?_ ?_ | exact trivial | refine o3 ?_ | refine o4 ?_ | refine o5 ?_ | refine o6 ?_ | refine k5 ?_ | (intro h; first | exact Bool.noConfusion h | exact nz _ h | exact nl h | (simp at h; done) | (simp at h; first | (exfalso; omega) | skip) | skip) | (change retOk _ _ _ _; refine ret_pure rfl trivial ?_) | exact (rfl : allOne _ = true) | (refine (?_ : (0 : Int) ≤ _); omega) | (refine (?_ : _ ≠ _); omega) | (refine (?_ : srcLen _ = rowsLen _); rfl) | exact Nat.le_of_ble_eq_true rfl | exact (by kernel_rfl : drawOk _ _ = true) | refine eqv_len_map ?_ | refine eqv_size ?_ | refine eqv_put (eqv_ck ?_) | refine eqv_zero ?_ | refine eqv_wrap (by omega) (by omega) ?_ | refine eqv_u64 (by omega) (by omega) ?_ | refine eqv_u8 (by omega) (by omega) ?_ | refine eqv_to _ (set_map rfl rfl) ?_ | refine ⟨_, _, (by first | rfl | assumption), at_map (by assumption), ?_⟩ | refine ⟨_, _, (by first | rfl | assumption), (by assumption), ?_⟩ | refine ⟨_, at_map (by assumption), (by decide), ?_⟩ | refine ⟨_, at_map (by assumption), ?_⟩ | (refine (?_ : _ ≤ 140737488355328); simp [rowsLen] <;> omega) | (refine (?_ : _ ≤ 9223372036854775807); simp [rowsLen] <;> omega) | (refine (?_ : _ = rowsLen _); simp [rowsLen] <;> omega) | refine eqv_to _ (app_row rfl) (eqv_to _ app_len ?_) | refine eqv_to _ (app_first rfl) (eqv_to 1 rfl ?_) | refine idx_sl (at_map (by assumption)) (by omega) ?_ | refine idx_ms _ (by first | rfl | assumption) (by first | assumption | omega) ?_ | fail)
    have hcl : (c.map Chg.cls).length ≤ 1000 := by rw [List.length_map]; exact hc
    generalize c.map Chg.cls = C at *
    refine loop_for (fun i : Nat => [(5, slP 0 1 ((C ++ (L.take i).flatten.map Sess.cls).map strRow)), (24, .pv (encLs L)), (25, vint .i64 L.length), (26, vint .i64 i)]) (fun i => [obP 9 1 ((C ++ (L.take i).flatten.map Sess.cls).map strRow)]) (fun i => i ≤ L.length) (fun i => L.length - i) 0 (Nat.zero_le _) ?_ ?_
    · show Ghost _ _ _ _ [(5, slP 0 1 ((C ++ []).map strRow)), _, _, _] [obP 9 1 ((C ++ []).map strRow)]
      rw [List.append_nil]
      exact back [0] rfl rfl (by repeat' (first | exact trivial | exact rfl | exact ren_get rfl | refine kept_ob rfl ?_ | exact ⟨_, rfl, ALe.refl⟩ | refine And.intro ?_ ?_)) (by repeat' (first | exact trivial | exact rfl | exact ren_get rfl | refine kept_ob rfl ?_ | exact ⟨_, rfl, ALe.refl⟩ | refine And.intro ?_ ?_))
    intro i hi
    rcases Nat.lt_or_ge i L.length with hlt | hge
    · obtain ⟨l, hl⟩ := getE hlt
      have hpr : (L.map fun l => [encSess l])[i]? = some [encSess l] := by rw [List.getElem?_map, hl]; rfl
      have htk : (L.take (i + 1)).flatten = (L.take i).flatten ++ l := by rw [take_snoc hl, List.flatten_append]; simp
      have htl : (L.take (i + 1)).flatten.length ≤ L.flatten.length := by
        conv => rhs; rw [← List.take_append_drop (i + 1) L, List.flatten_append, List.length_append]
        omega
      rw [htk, List.length_append] at htl
      generalize (L.take i).flatten = A at *
      repeat' (first | (refine fv_sl ?_) | (refine fh_ob ?_) | (refine ⟨_, hpr, ?_⟩) | (refine ⟨i, rfl, hlt, ?_⟩) | refine o1 ?_ | refine o2 ?_ | refine k1 ?_ | refine k2 ?_ | refine k3 ?_ | refine k4 ?_ | refine k6 ?_ | refine k7 ?_ | refine k8 ?_ | refine And.intro ?_ ?_ | exact trivial | refine o3 ?_ | refine o4 ?_ | refine o5 ?_ | refine o6 ?_ | refine k5 ?_ | (intro h; first | exact Bool.noConfusion h | exact nz _ h | exact nl h | (simp at h; done) | (simp at h; first | (exfalso; omega) | skip) | skip) | (change retOk _ _ _ _; refine ret_pure rfl trivial ?_) | exact (rfl : allOne _ = true) | (refine (?_ : (0 : Int) ≤ _); omega) | (refine (?_ : _ ≠ _); omega) | (refine (?_ : srcLen _ = rowsLen _); rfl) | exact Nat.le_of_ble_eq_true rfl | exact (by kernel_rfl : drawOk _ _ = true) | refine eqv_len_map ?_ | refine eqv_size ?_ | refine eqv_put (eqv_ck ?_) | refine eqv_zero ?_ | refine eqv_wrap (by omega) (by omega) ?_ | refine eqv_u64 (by omega) (by omega) ?_ | refine eqv_u8 (by omega) (by omega) ?_ | refine eqv_to _ (set_map rfl rfl) ?_ | refine ⟨_, _, (by first | rfl | assumption), at_map (by assumption), ?_⟩ | refine ⟨_, _, (by first | rfl | assumption), (by assumption), ?_⟩ | refine ⟨_, at_map (by assumption), (by decide), ?_⟩ | refine ⟨_, at_map (by assumption), ?_⟩ | (refine (?_ : _ ≤ 140737488355328); simp [rowsLen] <;> omega) | (refine (?_ : _ ≤ 9223372036854775807); simp [rowsLen] <;> omega) | (refine (?_ : _ = rowsLen _); simp [rowsLen] <;> omega) | refine eqv_to _ (app_row rfl) (eqv_to _ app_len ?_) | refine eqv_to _ (app_first rfl) (eqv_to 1 rfl ?_) | refine idx_sl (at_map (by assumption)) (by omega) ?_ | refine idx_ms _ (by first | rfl | assumption) (by first | assumption | omega) ?_ | fail)
      refine loop_for (fun k : Nat => [(5, slP 0 1 ((C ++ (A ++ l.take k).map Sess.cls).map strRow)), (24, .pv (encLs L)), (25, vint .i64 L.length), (26, vint .i64 i), (30, .pv (encSess l)), (31, vint .i64 l.length), (32, vint .i64 k)]) (fun k => [obP 9 1 ((C ++ (A ++ l.take k).map Sess.cls).map strRow)]) (fun k => k ≤ l.length) (fun k => l.length - k) 0 (Nat.zero_le _) ?_ ?_
      · show Ghost _ _ _ _ [(5, slP 0 1 ((C ++ (A ++ []).map Sess.cls).map strRow)), _, _, _, _, _, _] [obP 9 1 ((C ++ (A ++ []).map Sess.cls).map strRow)]
        rw [List.append_nil]
        exact back [0] rfl rfl (by repeat' (first | exact trivial | exact rfl | exact ren_get rfl | refine kept_ob rfl ?_ | exact ⟨_, rfl, ALe.refl⟩ | refine And.intro ?_ ?_)) (by repeat' (first | exact trivial | exact rfl | exact ren_get rfl | refine kept_ob rfl ?_ | exact ⟨_, rfl, ALe.refl⟩ | refine And.intro ?_ ?_))
      intro k hk
      rcases Nat.lt_or_ge k l.length with hkl | hkg
      · obtain ⟨x, hx⟩ := getE hkl
        have htk2 : C ++ (A ++ l.take (k + 1)).map Sess.cls = (C ++ (A ++ l.take k).map Sess.cls) ++ [x.cls] := by rw [take_snoc hx]; simp
        have hln : (C ++ (A ++ l.take k).map Sess.cls).length ≤ 101000 := by simp; omega
        generalize C ++ (A ++ l.take k).map Sess.cls = B at *
        repeat' (first | (refine fv_sl ?_) | (refine fh_ob ?_) | ((refine o_app rfl rfl rfl rfl rfl rfl rfl rfl rfl rfl rfl (by simp; omega) (by simp; omega) ?_)) | refine o1 ?_ | refine o2 ?_ | refine k1 ?_ | refine k2 ?_ | refine k3 ?_ | refine k4 ?_ | refine k6 ?_ | refine k7 ?_ | refine k8 ?_ | refine And.intro ?_ ?_ | exact trivial | refine o3 ?_ | refine o4 ?_ | refine o5 ?_ | refine o6 ?_ | refine k5 ?_ | (intro h; first | exact Bool.noConfusion h | exact nz _ h | exact nl h | (simp at h; done) | (simp at h; first | (exfalso; omega) | skip) | skip) | (change retOk _ _ _ _; refine ret_pure rfl trivial ?_) | exact (rfl : allOne _ = true) | (refine (?_ : (0 : Int) ≤ _); omega) | (refine (?_ : _ ≠ _); omega) | (refine (?_ : srcLen _ = rowsLen _); rfl) | exact Nat.le_of_ble_eq_true rfl | exact (by kernel_rfl : drawOk _ _ = true) | refine eqv_len_map ?_ | refine eqv_size ?_ | refine eqv_put (eqv_ck ?_) | refine eqv_zero ?_ | refine eqv_wrap (by omega) (by omega) ?_ | refine eqv_u64 (by omega) (by omega) ?_ | refine eqv_u8 (by omega) (by omega) ?_ | refine eqv_to _ (set_map rfl rfl) ?_ | refine ⟨_, _, (by first | rfl | assumption), at_map (by assumption), ?_⟩ | refine ⟨_, _, (by first | rfl | assumption), (by assumption), ?_⟩ | refine ⟨_, at_map (by assumption), (by decide), ?_⟩ | refine ⟨_, at_map (by assumption), ?_⟩ | (refine (?_ : _ ≤ 140737488355328); simp [rowsLen] <;> omega) | (refine (?_ : _ ≤ 9223372036854775807); simp [rowsLen] <;> omega) | (refine (?_ : _ = rowsLen _); simp [rowsLen] <;> omega) | refine eqv_to _ (app_row rfl) (eqv_to _ app_len ?_) | refine eqv_to _ (app_first rfl) (eqv_to 1 rfl ?_) | refine idx_sl (at_map (by assumption)) (by omega) ?_ | refine idx_ms _ (by first | rfl | assumption) (by first | assumption | omega) ?_ | fail)
        refine ⟨k + 1, hkl, by omega, ?_⟩
        rw [htk2, map_snoc, sl_app, ob_app]
        exact back [3] rfl rfl (by repeat' (first | exact trivial | exact rfl | exact ren_get rfl | refine kept_ob rfl ?_ | exact ⟨_, rfl, ALe.refl⟩ | refine And.intro ?_ ?_)) (by repeat' (first | exact trivial | exact rfl | exact ren_get rfl | refine kept_ob rfl ?_ | exact ⟨_, rfl, ALe.refl⟩ | (refine slot_eq rfl (congrArg (vint .i64) ?_); omega) | refine And.intro ?_ ?_))
      · obtain rfl : k = l.length := by omega
        rw [List.take_length, ← htk]
        repeat' (first | (refine fv_sl ?_) | (refine fh_ob ?_) | refine o1 ?_ | refine o2 ?_ | refine k1 ?_ | refine k2 ?_ | refine k3 ?_ | refine k4 ?_ | refine k6 ?_ | refine k7 ?_ | refine k8 ?_ | refine And.intro ?_ ?_ | exact trivial | refine o3 ?_ | refine o4 ?_ | refine o5 ?_ | refine o6 ?_ | refine k5 ?_ | (intro h; first | exact Bool.noConfusion h | exact nz _ h | exact nl h | (simp at h; done) | (simp at h; first | (exfalso; omega) | skip) | skip) | (change retOk _ _ _ _; refine ret_pure rfl trivial ?_) | exact (rfl : allOne _ = true) | (refine (?_ : (0 : Int) ≤ _); omega) | (refine (?_ : _ ≠ _); omega) | (refine (?_ : srcLen _ = rowsLen _); rfl) | exact Nat.le_of_ble_eq_true rfl | exact (by kernel_rfl : drawOk _ _ = true) | refine eqv_len_map ?_ | refine eqv_size ?_ | refine eqv_put (eqv_ck ?_) | refine eqv_zero ?_ | refine eqv_wrap (by omega) (by omega) ?_ | refine eqv_u64 (by omega) (by omega) ?_ | refine eqv_u8 (by omega) (by omega) ?_ | refine eqv_to _ (set_map rfl rfl) ?_ | refine ⟨_, _, (by first | rfl | assumption), at_map (by assumption), ?_⟩ | refine ⟨_, _, (by first | rfl | assumption), (by assumption), ?_⟩ | refine ⟨_, at_map (by assumption), (by decide), ?_⟩ | refine ⟨_, at_map (by assumption), ?_⟩ | (refine (?_ : _ ≤ 140737488355328); simp [rowsLen] <;> omega) | (refine (?_ : _ ≤ 9223372036854775807); simp [rowsLen] <;> omega) | (refine (?_ : _ = rowsLen _); simp [rowsLen] <;> omega) | refine eqv_to _ (app_row rfl) (eqv_to _ app_len ?_) | refine eqv_to _ (app_first rfl) (eqv_to 1 rfl ?_) | refine idx_sl (at_map (by assumption)) (by omega) ?_ | refine idx_ms _ (by first | rfl | assumption) (by first | assumption | omega) ?_ | fail)
        exact ⟨i + 1, hlt, by omega, back [0] rfl rfl (by repeat' (first | exact trivial | exact rfl | exact ren_get rfl | refine kept_ob rfl ?_ | exact ⟨_, rfl, ALe.refl⟩ | refine And.intro ?_ ?_)) (by repeat' (first | exact trivial | exact rfl | exact ren_get rfl | refine kept_ob rfl ?_ | exact ⟨_, rfl, ALe.refl⟩ | (refine slot_eq rfl (congrArg (vint .i64) ?_); omega) | refine And.intro ?_ ?_))⟩
    · obtain rfl : i = L.length := by omega
      rw [List.take_length]
      generalize L.flatten = A at *
      have hTl : (C ++ A.map Sess.cls).length ≤ 101000 := by rw [List.length_append, List.length_map]; omega
      generalize C ++ A.map Sess.cls = X at *
      unfold clsOf
      by_cases hX : X = []
      · subst hX
        have hz : compactS (sortS []) = [] := List.eq_nil_of_length_eq_zero (by have := compactS_len (sortS []); rw [sortS_len] at this; simpa using this)
        rw [hz]
        repeat' (first | (refine fv_sl ?_) | (refine fh_ob ?_) | refine o1 ?_ | refine o2 ?_ | refine k1 ?_ | refine k2 ?_ | refine k3 ?_ | refine k4 ?_ | refine k6 ?_ | refine k7 ?_ | refine k8 ?_ | refine And.intro ?_ ?_ | exact trivial | refine o3 ?_ | refine o4 ?_ | refine o5 ?_ | refine o6 ?_ | refine k5 ?_ | (intro h; first | exact Bool.noConfusion h | exact nz _ h | exact nl h | (simp at h; done) | (simp at h; first | (exfalso; omega) | skip) | skip) | (change retOk _ _ _ _; refine ret_pure rfl trivial ?_) | exact (rfl : allOne _ = true) | (refine (?_ : (0 : Int) ≤ _); omega) | (refine (?_ : _ ≠ _); omega) | (refine (?_ : srcLen _ = rowsLen _); rfl) | exact Nat.le_of_ble_eq_true rfl | exact (by kernel_rfl : drawOk _ _ = true) | refine eqv_len_map ?_ | refine eqv_size ?_ | refine eqv_put (eqv_ck ?_) | refine eqv_zero ?_ | refine eqv_wrap (by omega) (by omega) ?_ | refine eqv_u64 (by omega) (by omega) ?_ | refine eqv_u8 (by omega) (by omega) ?_ | refine eqv_to _ (set_map rfl rfl) ?_ | refine ⟨_, _, (by first | rfl | assumption), at_map (by assumption), ?_⟩ | refine ⟨_, _, (by first | rfl | assumption), (by assumption), ?_⟩ | refine ⟨_, at_map (by assumption), (by decide), ?_⟩ | refine ⟨_, at_map (by assumption), ?_⟩ | (refine (?_ : _ ≤ 140737488355328); simp [rowsLen] <;> omega) | (refine (?_ : _ ≤ 9223372036854775807); simp [rowsLen] <;> omega) | (refine (?_ : _ = rowsLen _); simp [rowsLen] <;> omega) | refine eqv_to _ (app_row rfl) (eqv_to _ app_len ?_) | refine eqv_to _ (app_first rfl) (eqv_to 1 rfl ?_) | refine idx_sl (at_map (by assumption)) (by omega) ?_ | refine idx_ms _ (by first | rfl | assumption) (by first | assumption | omega) ?_ | (change vcFun _ _ _ _ _; refine call_eq rfl (by repeat' (first | trivial | refine And.intro ?_ ?_ | (show 0 + _ ≤ List.length _; simp))) ALeL.refl (c_sort0) rfl ?_) | (change vcFun _ _ _ _ _; refine call_eq rfl (by repeat' (first | trivial | refine And.intro ?_ ?_ | (show 0 + _ ≤ List.length _; simp))) ALeL.refl (c_compact0) rfl ?_) | fail)
        exact ⟨ALe.pv PLe.nil⟩
      · rw [sl_ne hX (sortS_len X).symm, ob_ne hX]
        repeat' (first | ((change vcFun _ _ _ _ _; refine call_one (i := 0) rfl (fun _ _ => rfl) [.ms 0 1 0 (sortS X).length] rfl (c_sort2 X hX (by omega)) ?_; rintro r H' ⟨rfl, rfl⟩; refine ⟨_, rfl, fun _ _ => rfl, fun _ _ => rfl, ?_⟩)) | ((change vcFun _ _ _ _ _; refine call_obj [0] [some ⟨9, 1, false, .p ((sortS X).map strRow)⟩] [.ms 0 1 0 (sortS X).length] rfl ⟨rfl, trivial⟩ rfl (c_compact (sortS X) (sortS_ne hX) (by rw [sortS_len]; omega)) ?_; rintro r H' ⟨rfl, zs, rfl⟩)) | refine o1 ?_ | refine o2 ?_ | refine k1 ?_ | refine k2 ?_ | refine k3 ?_ | refine k4 ?_ | refine k6 ?_ | refine k7 ?_ | refine k8 ?_ | refine And.intro ?_ ?_ | exact trivial | refine o3 ?_ | refine o4 ?_ | refine o5 ?_ | refine o6 ?_ | refine k5 ?_ | (intro h; first | exact Bool.noConfusion h | exact nz _ h | exact nl h | (simp at h; done) | (simp at h; first | (exfalso; omega) | skip) | skip) | (change retOk _ _ _ _; refine ret_pure rfl trivial ?_) | exact (rfl : allOne _ = true) | (refine (?_ : (0 : Int) ≤ _); omega) | (refine (?_ : _ ≠ _); omega) | (refine (?_ : srcLen _ = rowsLen _); rfl) | exact Nat.le_of_ble_eq_true rfl | exact (by kernel_rfl : drawOk _ _ = true) | refine eqv_len_map ?_ | refine eqv_size ?_ | refine eqv_put (eqv_ck ?_) | refine eqv_zero ?_ | refine eqv_wrap (by omega) (by omega) ?_ | refine eqv_u64 (by omega) (by omega) ?_ | refine eqv_u8 (by omega) (by omega) ?_ | refine eqv_to _ (set_map rfl rfl) ?_ | refine ⟨_, _, (by first | rfl | assumption), at_map (by assumption), ?_⟩ | refine ⟨_, _, (by first | rfl | assumption), (by assumption), ?_⟩ | refine ⟨_, at_map (by assumption), (by decide), ?_⟩ | refine ⟨_, at_map (by assumption), ?_⟩ | (refine (?_ : _ ≤ 140737488355328); simp [rowsLen] <;> omega) | (refine (?_ : _ ≤ 9223372036854775807); simp [rowsLen] <;> omega) | (refine (?_ : _ = rowsLen _); simp [rowsLen] <;> omega) | refine eqv_to _ (app_row rfl) (eqv_to _ app_len ?_) | refine eqv_to _ (app_first rfl) (eqv_to 1 rfl ?_) | refine idx_sl (at_map (by assumption)) (by omega) ?_ | refine idx_ms _ (by first | rfl | assumption) (by first | assumption | omega) ?_ | fail)
        refine ret_conv (r0 := .pv (.sl 1 (List.take (compactS (sortS X)).length (List.drop 0 ((compactS (sortS X)).map strRow ++ zs.map strRow))))) [] [] rfl rfl trivial rfl ?_ rfl ⟨rfl, ?_⟩
        · show 0 + _ ≤ List.length _
          simp
        · rw [List.drop_zero, List.take_left' (by rw [List.length_map])]
          exact ⟨ALe.refl⟩
theorem c_classes (c : List Chg) (L : List (List Sess)) (hc : c.length ≤ 1000) (hL : L.flatten.length ≤ 100000) (hn : L.length ≤ 100) : PCall Tryz.prog 28 [.pv (encChgs c), .pv (encLs L)] (fun r => r = .pv (.sl 1 ((clsOf (c.map Chg.cls ++ L.flatten.map Sess.cls)).map strRow))) := (c_classes0 c L hc hL hn).weak fun r k => ⟨_, k.le, rfl⟩
theorem clsU_two {a b : List Sess} : clsOf (([] : List Chg).map Chg.cls ++ [a, b].flatten.map Sess.cls) = clsU a b := by
  unfold clsU; simp
theorem df1 {a b : List Sess} {w : Int} (h : ¬ validE a w = 0) : diffE a b w = validE a w ∧ diffV a b w = [] := by
  have : diffE a b w = validE a w := if_pos h
  exact ⟨this, by unfold diffV; rw [this, if_neg h]⟩
theorem df2 {a b : List Sess} {w : Int} (h1 : validE a w = 0) (h : ¬ validE b w = 0) : diffE a b w = validE b w ∧ diffV a b w = [] := by
  have : diffE a b w = validE b w := if_neg (by simp [h1])
  exact ⟨this, by unfold diffV; rw [this, if_neg h]⟩
theorem df3 {a b : List Sess} {w : Int} (h1 : validE a w = 0) (h : validE b w = 0) : diffE a b w = 0 ∧ diffV a b w = chgV a b := by
  have : diffE a b w = 0 := by unfold diffE; rw [if_neg (by simp [h1])]; exact h
  exact ⟨this, by unfold diffV; rw [this, if_pos rfl]⟩
theorem call_classes {a b : List Sess} {K : AV → Heap → Prop} (la : a.length ≤ 96) (lb : b.length ≤ 96) (hK : K (.pv (.sl 1 ((clsU a b).map strRow))) [some ⟨22, 1, true, .p [[encSess a], [encSess b]]⟩]) : vcFun Tryz.prog 28 [.pv (.val (.slice none 0 0)), .ms 0 1 0 2] [some ⟨22, 1, false, .p [[encSess a], [encSess b]]⟩] K := by
  have hc := c_classes [] [a, b] (Nat.zero_le _) (by simp; omega) (Nat.le_of_ble_eq_true rfl)
  rw [clsU_two] at hc
  have hle : ALeL [.pv (.val (.slice none 0 0)), .pv (encLs [a, b])] [.pv (encChgs []), .pv (encLs [a, b])] := ⟨ALe.pv PLe.nil, ALe.refl, trivial⟩
  refine call_frz (as0 := [.pv (.val (.slice none 0 0)), .pv (encLs [a, b])]) rfl ?_ hle hc ?_
  · repeat' (first | exact trivial | refine And.intro ?_ ?_ | (show 0 + 2 ≤ 2; omega))
  · rintro r rfl
    exact hK
theorem call_of {l : List Sess} {c : Str} {H : Heap} {K : AV → Heap → Prop} (hl : l.length ≤ 1000000000) (hK : K (.pv (encSess (ofC l c))) H) : vcFun Tryz.prog 29 [.pv (encSess l), .pv (es c)] H K := by
  refine call_frz (as0 := [.pv (encSess l), .pv (es c)]) rfl (by repeat' (first | trivial | refine And.intro ?_ ?_ | (show 0 + _ ≤ List.length _; simp))) ALeL.refl (c_of l c hl) ?_
  rintro r rfl
  exact hK
theorem chgD_t {a b : List Sess} {K : List Str} {i : Nat} {k : Str} (hk : K[i]? = some k) (h : ofC a k = ofC b k) : chgD a b (K.take (i + 1)) = chgD a b (K.take i) := by
  unfold chgD; rw [take_snoc hk, List.filterMap_append]; simp [pB_t h]
theorem chgD_f {a b : List Sess} {K : List Str} {i : Nat} {k : Str} (hk : K[i]? = some k) (h : ¬ ofC a k = ofC b k) : chgD a b (K.take (i + 1)) = chgD a b (K.take i) ++ [⟨k, ofC a k, ofC b k⟩] := by
  unfold chgD; rw [take_snoc hk, List.filterMap_append]; simp [pB_f h]
theorem chgD_len {a b : List Sess} {K : List Str} : (chgD a b K).length ≤ K.length := by
  unfold chgD; exact List.length_filterMap_le _ _
theorem clsU_len {a b : List Sess} : (clsU a b).length ≤ a.length + b.length := by
  unfold clsU clsOf
  have := compactS_len (sortS (a.map Sess.cls ++ b.map Sess.cls))
  rw [sortS_len] at this
  simpa using this
theorem ofC_leng {l : List Sess} {c : Str} : (ofC l c).length ≤ l.length := by
  unfold ofC; exact List.length_filter_le _ _
theorem c_diff0 (a b : List Sess) (w : Int) (ha : a.length ≤ 100000000) (hb : b.length ≤ 100000000) : PCall Tryz.prog 10 [.pv (encSess a), .pv (encSess b), vint .i64 w] (fun r => Leq r (.tup [.pv (encChgs (diffV a b w)), vint .i64 (diffE a b w)])) := by
  have hva := c_valid a w (by omega)
  have hvb := c_valid b w (by omega)
  by_cases h0 : validE a w = 0
  · by_cases h1 : validE b w = 0
    · obtain ⟨e1, e2⟩ := df3 h0 h1
      rw [e1, e2]
      rw [h0] at hva
      rw [h1] at hvb
      refine acall_of tok mixed 55 rfl (fn := Tryz.f10) (c := Tryz.f10.body.getD .skip) (by kernel_rfl) (by kernel_rfl) (by kernel_rfl) rfl 0 rfl ?_
      have la := (valid_parts h0).2.1
      have lb := (valid_parts h1).2.1
      repeat' (first | ((change vcFun _ _ _ _ _; refine call_classes la lb ?_)) | refine o1 ?_ | refine o2 ?_ | refine k1 ?_ | refine k2 ?_ | refine k3 ?_ | refine k4 ?_ | refine k6 ?_ | refine k7 ?_ | refine k8 ?_ | refine And.intro ?_ ?_ | exact trivial | refine o3 ?_ | refine o4 ?_ | refine o5 ?_ | refine o6 ?_ | refine k5 ?_ | (intro h; first | exact Bool.noConfusion h | exact nz _ h | exact nl h | (simp at h; done) | (simp at h; first | (exfalso; omega) | skip) | skip) | (change retOk _ _ _ _; refine ret_pure rfl trivial ?_) | exact (rfl : allOne _ = true) | (refine (?_ : (0 : Int) ≤ _); omega) | (refine (?_ : _ ≠ _); omega) | (refine (?_ : srcLen _ = rowsLen _); rfl) | exact Nat.le_of_ble_eq_true rfl | exact (by kernel_rfl : drawOk _ _ = true) | refine eqv_len_map ?_ | refine eqv_size ?_ | refine eqv_put (eqv_ck ?_) | refine eqv_zero ?_ | refine eqv_wrap (by omega) (by omega) ?_ | refine eqv_u64 (by omega) (by omega) ?_ | refine eqv_u8 (by omega) (by omega) ?_ | refine eqv_to _ (set_map rfl rfl) ?_ | refine ⟨_, _, (by first | rfl | assumption), at_map (by assumption), ?_⟩ | refine ⟨_, _, (by first | rfl | assumption), (by assumption), ?_⟩ | refine ⟨_, at_map (by assumption), (by decide), ?_⟩ | refine ⟨_, at_map (by assumption), ?_⟩ | (refine (?_ : _ ≤ 140737488355328); simp [rowsLen] <;> omega) | (refine (?_ : _ ≤ 9223372036854775807); simp [rowsLen] <;> omega) | (refine (?_ : _ = rowsLen _); simp [rowsLen] <;> omega) | refine eqv_to _ (app_row rfl) (eqv_to _ app_len ?_) | refine eqv_to _ (app_first rfl) (eqv_to 1 rfl ?_) | refine idx_sl (at_map (by assumption)) (by omega) ?_ | refine idx_ms _ (by first | rfl | assumption) (by first | assumption | omega) ?_ | (change vcFun _ _ _ _ _; refine call_eq rfl (by repeat' (first | trivial | refine And.intro ?_ ?_ | (show 0 + _ ≤ List.length _; simp))) ALeL.refl (hva) rfl ?_) | (change vcFun _ _ _ _ _; refine call_eq rfl (by repeat' (first | trivial | refine And.intro ?_ ?_ | (show 0 + _ ≤ List.length _; simp))) ALeL.refl (hvb) rfl ?_) | fail)
      have hKl := clsU_len (a := a) (b := b)
      unfold chgV
      generalize clsU a b = K at *
      refine loop_for (fun i : Nat => [(0, .pv (encSess a)), (1, .pv (encSess b)), (10, slP 0 3 ((chgD a b (K.take i)).map Chg.row)), (30, .pv (.sl 1 (K.map strRow))), (31, vint .i64 K.length), (32, vint .i64 i)]) (fun i => [obP 54 3 ((chgD a b (K.take i)).map Chg.row)]) (fun i => i ≤ K.length) (fun i => K.length - i) 0 (Nat.zero_le _) ?_ ?_
      · exact back [1] rfl rfl (by repeat' (first | exact trivial | exact rfl | exact ren_get rfl | refine kept_ob rfl ?_ | exact ⟨_, rfl, ALe.refl⟩ | refine And.intro ?_ ?_)) (by repeat' (first | exact trivial | exact rfl | exact ren_get rfl | refine kept_ob rfl ?_ | exact ⟨_, rfl, ALe.refl⟩ | refine And.intro ?_ ?_))
      intro i hi
      rcases Nat.lt_or_ge i K.length with hlt | hge
      · obtain ⟨k, hk⟩ := getE hlt
        have hkr : (K.map strRow)[i]? = some [es k] := by rw [List.getElem?_map, hk]; rfl
        have hal := ofC_leng (l := a) (c := k)
        have hbl := ofC_leng (l := b) (c := k)
        have heq := c_equal (ofC a k) (ofC b k) (by omega) (by omega)
        have hdl := Nat.le_trans (chgD_len (a := a) (b := b) (K := K.take i)) (List.length_take_le ..)
        by_cases e : ofC a k = ofC b k
        · have hd := chgD_t (a := a) (b := b) hk e
          rw [pB_t e] at heq
          generalize chgD a b (K.take i) = D at *
          repeat' (first | (refine fv_sl ?_) | (refine fh_ob ?_) | (refine ⟨_, hkr, ?_⟩) | (refine ⟨i, rfl, hlt, ?_⟩) | ((change vcFun _ _ _ _ _; refine call_of (by omega) ?_)) | refine o1 ?_ | refine o2 ?_ | refine k1 ?_ | refine k2 ?_ | refine k3 ?_ | refine k4 ?_ | refine k6 ?_ | refine k7 ?_ | refine k8 ?_ | refine And.intro ?_ ?_ | exact trivial | refine o3 ?_ | refine o4 ?_ | refine o5 ?_ | refine o6 ?_ | refine k5 ?_ | (intro h; first | exact Bool.noConfusion h | exact nz _ h | exact nl h | (simp at h; done) | (simp at h; first | (exfalso; omega) | skip) | skip) | (change retOk _ _ _ _; refine ret_pure rfl trivial ?_) | exact (rfl : allOne _ = true) | (refine (?_ : (0 : Int) ≤ _); omega) | (refine (?_ : _ ≠ _); omega) | (refine (?_ : srcLen _ = rowsLen _); rfl) | exact Nat.le_of_ble_eq_true rfl | exact (by kernel_rfl : drawOk _ _ = true) | refine eqv_len_map ?_ | refine eqv_size ?_ | refine eqv_put (eqv_ck ?_) | refine eqv_zero ?_ | refine eqv_wrap (by omega) (by omega) ?_ | refine eqv_u64 (by omega) (by omega) ?_ | refine eqv_u8 (by omega) (by omega) ?_ | refine eqv_to _ (set_map rfl rfl) ?_ | refine ⟨_, _, (by first | rfl | assumption), at_map (by assumption), ?_⟩ | refine ⟨_, _, (by first | rfl | assumption), (by assumption), ?_⟩ | refine ⟨_, at_map (by assumption), (by decide), ?_⟩ | refine ⟨_, at_map (by assumption), ?_⟩ | (refine (?_ : _ ≤ 140737488355328); simp [rowsLen] <;> omega) | (refine (?_ : _ ≤ 9223372036854775807); simp [rowsLen] <;> omega) | (refine (?_ : _ = rowsLen _); simp [rowsLen] <;> omega) | refine eqv_to _ (app_row rfl) (eqv_to _ app_len ?_) | refine eqv_to _ (app_first rfl) (eqv_to 1 rfl ?_) | refine idx_sl (at_map (by assumption)) (by omega) ?_ | refine idx_ms _ (by first | rfl | assumption) (by first | assumption | omega) ?_ | (change vcFun _ _ _ _ _; refine call_eq rfl (by repeat' (first | trivial | refine And.intro ?_ ?_ | (show 0 + _ ≤ List.length _; simp))) ALeL.refl (heq) rfl ?_) | fail)
          refine ⟨i + 1, hlt, by omega, ?_⟩
          rw [hd]
          exact back [0] rfl rfl (by repeat' (first | exact trivial | exact rfl | exact ren_get rfl | refine kept_ob rfl ?_ | exact ⟨_, rfl, ALe.refl⟩ | refine And.intro ?_ ?_)) (by repeat' (first | exact trivial | exact rfl | exact ren_get rfl | refine kept_ob rfl ?_ | exact ⟨_, rfl, ALe.refl⟩ | (refine slot_eq rfl (congrArg (vint .i64) ?_); omega) | refine And.intro ?_ ?_))
        · have hd := chgD_f (a := a) (b := b) hk e
          rw [pB_f e] at heq
          generalize chgD a b (K.take i) = D at *
          repeat' (first | (refine fv_sl ?_) | (refine fh_ob ?_) | (refine ⟨_, hkr, ?_⟩) | (refine ⟨i, rfl, hlt, ?_⟩) | ((change vcFun _ _ _ _ _; refine call_of (by omega) ?_)) | ((refine o_app rfl rfl rfl rfl rfl rfl rfl rfl rfl rfl rfl (by simp; omega) (by simp; omega) ?_)) | refine o1 ?_ | refine o2 ?_ | refine k1 ?_ | refine k2 ?_ | refine k3 ?_ | refine k4 ?_ | refine k6 ?_ | refine k7 ?_ | refine k8 ?_ | refine And.intro ?_ ?_ | exact trivial | refine o3 ?_ | refine o4 ?_ | refine o5 ?_ | refine o6 ?_ | refine k5 ?_ | (intro h; first | exact Bool.noConfusion h | exact nz _ h | exact nl h | (simp at h; done) | (simp at h; first | (exfalso; omega) | skip) | skip) | (change retOk _ _ _ _; refine ret_pure rfl trivial ?_) | exact (rfl : allOne _ = true) | (refine (?_ : (0 : Int) ≤ _); omega) | (refine (?_ : _ ≠ _); omega) | (refine (?_ : srcLen _ = rowsLen _); rfl) | exact Nat.le_of_ble_eq_true rfl | exact (by kernel_rfl : drawOk _ _ = true) | refine eqv_len_map ?_ | refine eqv_size ?_ | refine eqv_put (eqv_ck ?_) | refine eqv_zero ?_ | refine eqv_wrap (by omega) (by omega) ?_ | refine eqv_u64 (by omega) (by omega) ?_ | refine eqv_u8 (by omega) (by omega) ?_ | refine eqv_to _ (set_map rfl rfl) ?_ | refine ⟨_, _, (by first | rfl | assumption), at_map (by assumption), ?_⟩ | refine ⟨_, _, (by first | rfl | assumption), (by assumption), ?_⟩ | refine ⟨_, at_map (by assumption), (by decide), ?_⟩ | refine ⟨_, at_map (by assumption), ?_⟩ | (refine (?_ : _ ≤ 140737488355328); simp [rowsLen] <;> omega) | (refine (?_ : _ ≤ 9223372036854775807); simp [rowsLen] <;> omega) | (refine (?_ : _ = rowsLen _); simp [rowsLen] <;> omega) | refine eqv_to _ (app_row rfl) (eqv_to _ app_len ?_) | refine eqv_to _ (app_first rfl) (eqv_to 1 rfl ?_) | refine idx_sl (at_map (by assumption)) (by omega) ?_ | refine idx_ms _ (by first | rfl | assumption) (by first | assumption | omega) ?_ | (change vcFun _ _ _ _ _; refine call_eq rfl (by repeat' (first | trivial | refine And.intro ?_ ?_ | (show 0 + _ ≤ List.length _; simp))) ALeL.refl (heq) rfl ?_) | fail)
          refine ⟨i + 1, hlt, by omega, ?_⟩
          rw [hd, map_snoc, sl_app, ob_app]
          exact back [2] rfl rfl (by repeat' (first | exact trivial | exact rfl | exact ren_get rfl | refine kept_ob rfl ?_ | exact ⟨_, rfl, ALe.refl⟩ | refine And.intro ?_ ?_)) (by repeat' (first | exact trivial | exact rfl | exact ren_get rfl | refine kept_ob rfl ?_ | exact ⟨_, rfl, ALe.refl⟩ | (refine slot_eq rfl (congrArg (vint .i64) ?_); omega) | refine And.intro ?_ ?_))
      · obtain rfl : i = K.length := by omega
        rw [List.take_length]
        repeat' (first | (refine fv_sl ?_) | (refine fh_ob ?_) | refine o1 ?_ | refine o2 ?_ | refine k1 ?_ | refine k2 ?_ | refine k3 ?_ | refine k4 ?_ | refine k6 ?_ | refine k7 ?_ | refine k8 ?_ | refine And.intro ?_ ?_ | exact trivial | refine o3 ?_ | refine o4 ?_ | refine o5 ?_ | refine o6 ?_ | refine k5 ?_ | (intro h; first | exact Bool.noConfusion h | exact nz _ h | exact nl h | (simp at h; done) | (simp at h; first | (exfalso; omega) | skip) | skip) | (change retOk _ _ _ _; refine ret_pure rfl trivial ?_) | exact (rfl : allOne _ = true) | (refine (?_ : (0 : Int) ≤ _); omega) | (refine (?_ : _ ≠ _); omega) | (refine (?_ : srcLen _ = rowsLen _); rfl) | exact Nat.le_of_ble_eq_true rfl | exact (by kernel_rfl : drawOk _ _ = true) | refine eqv_len_map ?_ | refine eqv_size ?_ | refine eqv_put (eqv_ck ?_) | refine eqv_zero ?_ | refine eqv_wrap (by omega) (by omega) ?_ | refine eqv_u64 (by omega) (by omega) ?_ | refine eqv_u8 (by omega) (by omega) ?_ | refine eqv_to _ (set_map rfl rfl) ?_ | refine ⟨_, _, (by first | rfl | assumption), at_map (by assumption), ?_⟩ | refine ⟨_, _, (by first | rfl | assumption), (by assumption), ?_⟩ | refine ⟨_, at_map (by assumption), (by decide), ?_⟩ | refine ⟨_, at_map (by assumption), ?_⟩ | (refine (?_ : _ ≤ 140737488355328); simp [rowsLen] <;> omega) | (refine (?_ : _ ≤ 9223372036854775807); simp [rowsLen] <;> omega) | (refine (?_ : _ = rowsLen _); simp [rowsLen] <;> omega) | refine eqv_to _ (app_row rfl) (eqv_to _ app_len ?_) | refine eqv_to _ (app_first rfl) (eqv_to 1 rfl ?_) | refine idx_sl (at_map (by assumption)) (by omega) ?_ | refine idx_ms _ (by first | rfl | assumption) (by first | assumption | omega) ?_ | fail)
        exact ret_sl2 (id := 0) (ty := 54) rfl rfl
    · obtain ⟨e1, e2⟩ := df2 h0 h1
      rw [e1, e2]
      rw [h0] at hva
      generalize validE b w = E at *
      refine acall_of tok mixed 55 rfl (fn := Tryz.f10) (c := Tryz.f10.body.getD .skip) (by kernel_rfl) (by kernel_rfl) (by kernel_rfl) rfl 0 rfl ?_
      repeat' (first | refine o1 ?_ | refine o2 ?_ | refine k1 ?_ | refine k2 ?_ | refine k3 ?_ | refine k4 ?_ | refine k6 ?_ | refine k7 ?_ | refine k8 ?_ | refine And.intro ?_ ?_ | exact trivial | refine o3 ?_ | refine o4 ?_ | refine o5 ?_ | refine o6 ?_ | refine k5 ?_ | (intro h; first | exact Bool.noConfusion h | exact nz _ h | exact nl h | (simp at h; done) | (simp at h; first | (exfalso; omega) | skip) | skip) | (change retOk _ _ _ _; refine ret_pure rfl trivial ?_) | exact (rfl : allOne _ = true) | (refine (?_ : (0 : Int) ≤ _); omega) | (refine (?_ : _ ≠ _); omega) | (refine (?_ : srcLen _ = rowsLen _); rfl) | exact Nat.le_of_ble_eq_true rfl | exact (by kernel_rfl : drawOk _ _ = true) | refine eqv_len_map ?_ | refine eqv_size ?_ | refine eqv_put (eqv_ck ?_) | refine eqv_zero ?_ | refine eqv_wrap (by omega) (by omega) ?_ | refine eqv_u64 (by omega) (by omega) ?_ | refine eqv_u8 (by omega) (by omega) ?_ | refine eqv_to _ (set_map rfl rfl) ?_ | refine ⟨_, _, (by first | rfl | assumption), at_map (by assumption), ?_⟩ | refine ⟨_, _, (by first | rfl | assumption), (by assumption), ?_⟩ | refine ⟨_, at_map (by assumption), (by decide), ?_⟩ | refine ⟨_, at_map (by assumption), ?_⟩ | (refine (?_ : _ ≤ 140737488355328); simp [rowsLen] <;> omega) | (refine (?_ : _ ≤ 9223372036854775807); simp [rowsLen] <;> omega) | (refine (?_ : _ = rowsLen _); simp [rowsLen] <;> omega) | refine eqv_to _ (app_row rfl) (eqv_to _ app_len ?_) | refine eqv_to _ (app_first rfl) (eqv_to 1 rfl ?_) | refine idx_sl (at_map (by assumption)) (by omega) ?_ | refine idx_ms _ (by first | rfl | assumption) (by first | assumption | omega) ?_ | (change vcFun _ _ _ _ _; refine call_eq rfl (by repeat' (first | trivial | refine And.intro ?_ ?_ | (show 0 + _ ≤ List.length _; simp))) ALeL.refl (hva) rfl ?_) | (change vcFun _ _ _ _ _; refine call_eq rfl (by repeat' (first | trivial | refine And.intro ?_ ?_ | (show 0 + _ ≤ List.length _; simp))) ALeL.refl (hvb) rfl ?_) | fail)
      exact ⟨ALe.tup ⟨ALe.pv PLe.nil, ALe.refl, trivial⟩⟩
  · obtain ⟨e1, e2⟩ := df1 (b := b) h0
    rw [e1, e2]
    generalize validE a w = E at *
    refine acall_of tok mixed 55 rfl (fn := Tryz.f10) (c := Tryz.f10.body.getD .skip) (by kernel_rfl) (by kernel_rfl) (by kernel_rfl) rfl 0 rfl ?_
    repeat' (first | refine o1 ?_ | refine o2 ?_ | refine k1 ?_ | refine k2 ?_ | refine k3 ?_ | refine k4 ?_ | refine k6 ?_ | refine k7 ?_ | refine k8 ?_ | refine And.intro ?_ ?_ | exact trivial | refine o3 ?_ | refine o4 ?_ | refine o5 ?_ | refine o6 ?_ | refine k5 ?_ | (intro h; first | exact Bool.noConfusion h | exact nz _ h | exact nl h | (simp at h; done) | (simp at h; first | (exfalso; omega) | skip) | skip) | (change retOk _ _ _ _; refine ret_pure rfl trivial ?_) | exact (rfl : allOne _ = true) | (refine (?_ : (0 : Int) ≤ _); omega) | (refine (?_ : _ ≠ _); omega) | (refine (?_ : srcLen _ = rowsLen _); rfl) | exact Nat.le_of_ble_eq_true rfl | exact (by kernel_rfl : drawOk _ _ = true) | refine eqv_len_map ?_ | refine eqv_size ?_ | refine eqv_put (eqv_ck ?_) | refine eqv_zero ?_ | refine eqv_wrap (by omega) (by omega) ?_ | refine eqv_u64 (by omega) (by omega) ?_ | refine eqv_u8 (by omega) (by omega) ?_ | refine eqv_to _ (set_map rfl rfl) ?_ | refine ⟨_, _, (by first | rfl | assumption), at_map (by assumption), ?_⟩ | refine ⟨_, _, (by first | rfl | assumption), (by assumption), ?_⟩ | refine ⟨_, at_map (by assumption), (by decide), ?_⟩ | refine ⟨_, at_map (by assumption), ?_⟩ | (refine (?_ : _ ≤ 140737488355328); simp [rowsLen] <;> omega) | (refine (?_ : _ ≤ 9223372036854775807); simp [rowsLen] <;> omega) | (refine (?_ : _ = rowsLen _); simp [rowsLen] <;> omega) | refine eqv_to _ (app_row rfl) (eqv_to _ app_len ?_) | refine eqv_to _ (app_first rfl) (eqv_to 1 rfl ?_) | refine idx_sl (at_map (by assumption)) (by omega) ?_ | refine idx_ms _ (by first | rfl | assumption) (by first | assumption | omega) ?_ | (change vcFun _ _ _ _ _; refine call_eq rfl (by repeat' (first | trivial | refine And.intro ?_ ?_ | (show 0 + _ ≤ List.length _; simp))) ALeL.refl (hva) rfl ?_) | (change vcFun _ _ _ _ _; refine call_eq rfl (by repeat' (first | trivial | refine And.intro ?_ ?_ | (show 0 + _ ≤ List.length _; simp))) ALeL.refl (hvb) rfl ?_) | fail)
    exact ⟨ALe.tup ⟨ALe.pv PLe.nil, ALe.refl, trivial⟩⟩
theorem c_diff (a b : List Sess) (w : Int) (ha : a.length ≤ 100000000) (hb : b.length ≤ 100000000) : PCall Tryz.prog 10 [.pv (encSess a), .pv (encSess b), vint .i64 w] (fun r => r = .tup [.pv (encChgs (diffV a b w)), vint .i64 (diffE a b w)]) := (c_diff0 a b w ha hb).weak fun r k => ⟨_, k.le, rfl⟩
end Go.Proofs.YtbcacaodfpgflaaGreatDoor.Cw

/-
  Plain laws: the classes of lists, put in one by one.
-/
namespace Go.Proofs.YtbcacaodfpgflaaGreatDoor.Cw
open Go Go.Cw Go.Proofs
set_option linter.unusedVariables false

theorem clsOf_have {L : List Str} {x : Str} (h : x ∈ clsOf L) : clsOf (L ++ [x]) = clsOf L := clsOf_same fun y => by
  rw [List.mem_append, List.mem_singleton]
  exact ⟨fun k => k.elim id fun e => by subst e; exact clsOf_mem.1 h, .inl⟩
theorem clsOf_put {L : List Str} {x : Str} {k : Nat} (h1 : ∀ j, j < k → ∀ y, (clsOf L)[j]? = some y → sLt y x = true) (h2 : ∀ y, (clsOf L)[k]? = some y → sLt x y = true) :
    clsOf (L ++ [x]) = (clsOf L).take k ++ [x] ++ (clsOf L).drop k := by
  have hs : strS (clsOf L) := clsOf_str
  refine strS_unique clsOf_str ?_ fun y => ?_
  · generalize clsOf L = K at *
    unfold strS at *
    have hd : ∀ y ∈ K.drop k, sLt x y = true := fun y hy => by
      cases hk : K[k]? with
      | none => rw [List.drop_eq_nil_of_le (List.getElem?_eq_none_iff.1 hk)] at hy; cases hy
      | some z =>
        have e : K.drop k = z :: K.drop (k + 1) := by
          obtain ⟨hi, rfl⟩ := List.getElem?_eq_some_iff.1 hk
          exact List.drop_eq_getElem_cons hi
        have hp : (K.drop k).Pairwise fun x y => sLt x y = true := hs.sublist (List.drop_sublist _ _)
        rw [e] at hy hp
        rcases List.mem_cons.1 hy with rfl | hy
        · exact h2 _ hk
        · exact sLt_trans (h2 _ hk) ((List.pairwise_cons.1 hp).1 y hy)
    have ht : ∀ y ∈ K.take k, sLt y x = true := fun y hy => by
      obtain ⟨j, hj⟩ := List.getElem?_of_mem hy
      rw [List.getElem?_take] at hj
      split at hj
      · exact h1 j (by assumption) y hj
      · cases hj
    rw [List.pairwise_append, List.pairwise_append]
    refine ⟨⟨hs.sublist (List.take_sublist _ _), List.pairwise_singleton .., fun a ha b hb => by rw [List.mem_singleton.1 hb]; exact ht a ha⟩, hs.sublist (List.drop_sublist _ _), fun a ha b hb => ?_⟩
    rcases List.mem_append.1 ha with ha | ha
    · exact sLt_trans (ht a ha) (hd b hb)
    · rw [List.mem_singleton.1 ha]; exact hd b hb
  · rw [clsOf_mem, List.mem_append, List.mem_append, List.mem_append]
    have : y ∈ clsOf L ↔ y ∈ (clsOf L).take k ∨ y ∈ (clsOf L).drop k := by
      rw [← List.mem_append, List.take_append_drop]
    rw [← clsOf_mem, this]
    exact ⟨fun h => by rcases h with (h | h) | h <;> simp [h], fun h => by rcases h with (h | h) | h <;> simp [h]⟩
end Go.Proofs.YtbcacaodfpgflaaGreatDoor.Cw
