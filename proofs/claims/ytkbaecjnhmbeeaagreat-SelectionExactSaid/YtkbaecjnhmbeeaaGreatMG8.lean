/-
  Part 8 of the proof (Sv5, Sv6, Sv7, YH, Sv8, Sv9, S6, S7, V10): what later parts use. No conditions.
-/
import Derived.Test.YtkbaecjnhmbeeaaGreatMG7
/-
  selection.joined: the simple form of simple selections that are joined.
-/
namespace Go.Proofs.YtkbaecjnhmbeeaaGreat.Cw
open Go Go.Cw Go.Proofs
set_option linter.unusedVariables false
set_option maxRecDepth 100000
set_option maxHeartbeats 8000000
def allC : List PV := [ei 1, es noN, .val (.slice none 0 0)]
def noneC : List PV := [ei 10, es noN, .sl 3 [allC]]
theorem noneLe : PLeL noneC noneQ.row := by
  rw [show noneQ.row = [ei 10, es noN, .sl 3 [allR]] by unfold noneQ; rw [row_mk, List.map_cons, allR_eq]; rfl]
  exact ⟨PLe.refl, PLe.refl, PLe.sl ⟨allP, trivial⟩, trivial⟩
theorem allLe : PLeL allC allQ.row := by rw [allR_eq]; exact allP
theorem c_notAll : PCall Tryz.prog 108 [ag [ei 1, es noN, .val (.slice none 0 0)]] (fun r => r = ag [ei 10, es noN, .sl 3 [[ei 1, es noN, .val (.slice none 0 0)]]]) := by
  refine acall_of tok mixed 26 rfl (fn := Tryz.f108) (c := Tryz.f108.body.getD .skip) (by kernel_rfl) (by kernel_rfl) (by kernel_rfl) rfl 0 rfl ?_
  repeat' (first | refine o1 ?_ | refine o2 ?_ | refine k1 ?_ | refine k2 ?_ | refine k3 ?_ | refine k4 ?_ | refine k6 ?_ | refine k7 ?_ | refine And.intro ?_ ?_ | (intro h; first | exact Bool.noConfusion h | exact nz _ h | exact nl h | (simp at h; done) | (simp at h; first | (exfalso; omega) | skip) | skip) | exact (by kernel_rfl : drawOk _ _ = true) | fail)
  all_goals first
    | rfl
    | (change retOk _ _ _ _; refine ret_pure rfl (by repeat' (first | exact True.intro | refine And.intro ?_ ?_ | exact Nat.le_refl _)) ?_; rfl)
theorem flat_succ {k : Int} {l : List Sel} {i : Nat} {q : Sel} (h : l[i]? = some q) : flatV k (l.take (i + 1)) = flatV k (l.take i) ++ if q.kind = k then q.kids else [q] := by rw [take_snoc h, flat_snoc]
abbrev selB (cs : List PV) : Option AObj := some ⟨52, 3, false, .box (pvs cs)⟩
abbrev zeroC : List PV := [ei 0, es noN, .val (.slice none 0 0)]
theorem selL_allQ : SelL allQ := selL_lv _ (by rw [lv_all]; omega)
theorem selL_noneQ : SelL noneQ := selL_lv _ (by rw [lv_none]; omega)
theorem c_isA (x : Sel) (hx : SelL x) : PCall Tryz.prog 213 (ag x.row :: pvs [.ia [ei 1, es noN, .val (.slice none 0 0)]]) (fun r => r = vbool (ordS x allQ == 0)) := c_j21a x allQ hx selL_allQ 1 noN allLe
theorem c_isN (x : Sel) (hx : SelL x) : PCall Tryz.prog 213 (ag x.row :: pvs [.ia [ei 10, es noN, .sl 3 [[ei 1, es noN, .val (.slice none 0 0)]]]]) (fun r => r = vbool (ordS x noneQ == 0)) := c_j21b x noneQ hx selL_noneQ 10 noN _ noneLe
theorem sl_neS {id : Nat} {F : List Sel} (h : F ≠ []) : slP id 3 (F.map Sel.row) = .ms id 3 0 F.length := by
  cases F with
  | nil => exact absurd rfl h
  | cons x F => simp [slP]
theorem ob_neS {ty : Nat} {F : List Sel} (h : F ≠ []) : obP ty 3 (F.map Sel.row) = some ⟨ty, 3, false, .p (F.map Sel.row)⟩ := by
  cases F with
  | nil => exact absurd rfl h
  | cons x F => rfl
theorem c_joined8 (l : List Sel) (hne : l ≠ []) (hs : ∀ q ∈ l, IsS q) (hlv : lvL l ≤ 1000) : PCall Tryz.prog 109 [vint .i64 8, .pv (.sl 3 (l.map Sel.row))] (fun r => Leq r (ag (joinV 8 l).row)) := by
  have hl1 := len_lv l
  have hall := c_notAll
  have hfl : ∀ i, (flatV 8 (l.take i)).length ≤ 1000 := fun i => by
    have h1 := len_lv (flatV 8 (l.take i))
    have h2 := lv_flat (k := 8) (l.take i)
    have h3 : lvL (l.take i) ≤ lvL l := by
      have := lvL_app (l.take i) (l.drop i)
      rw [List.take_append_drop] at this; omega
    omega
  refine acall_of tok mixed 67 rfl (fn := Tryz.f109) (c := Tryz.f109.body.getD .skip) (by kernel_rfl) (by kernel_rfl) (by kernel_rfl) rfl 0 rfl ?_
  repeat' (first | ((change vcFunD _ _ _ _ _; refine callD_eq rfl (by repeat' (first | trivial | refine And.intro ?_ ?_ | (show 0 + _ ≤ List.length _; simp))) ALeL.refl hall rfl ?_)) | refine o1 ?_ | refine o2 ?_ | refine k1 ?_ | refine k2 ?_ | refine k3 ?_ | refine k4 ?_ | refine k6 ?_ | refine And.intro ?_ ?_ | refine o3 ?_ | refine o4 ?_ | (intro h; first | exact Bool.noConfusion h | exact nz _ h | exact nl h | (simp at h; done) | (simp at h; first | (exfalso; omega) | skip) | skip) | exact (by kernel_rfl : drawOk _ _ = true) | refine eqv_len_map ?_ | fail)
  refine loop_for (fun i : Nat => [(0, vint .i64 8), (4, .ptr 0 3 0 0), (6, .ptr 2 3 0 0), (7, .ptr 3 3 0 0), (8, slP 4 3 ((flatV 8 (l.take i)).map Sel.row)), (20, .pv (.sl 3 (l.map Sel.row))), (21, vint .i64 l.length), (22, vint .i64 i)])
    (fun i => [selB zeroC, selB [ei 1, es noN, .val (.slice none 0 0)], selB [ei 1, es noN, .val (.slice none 0 0)], selB [ei 10, es noN, .sl 3 [[ei 1, es noN, .val (.slice none 0 0)]]], obP 52 3 ((flatV 8 (l.take i)).map Sel.row)]) (fun i => i ≤ l.length) (fun i => l.length - i) 0 (Nat.zero_le _) ?_ ?_
  · exact back [0, 1, 2, 3, 4] rfl rfl (by repeat' (first | exact trivial | exact rfl | refine And.intro ?_ ?_)) (by repeat' (first | exact trivial | exact rfl | refine And.intro ?_ ?_))
  intro i hi
  rcases Nat.lt_or_ge i l.length with hlt | hge
  · obtain ⟨⟨kq, nq, lq⟩, hq⟩ := getE hlt
    have hsn := flat_succ (k := 8) hq
    have hf1 := hfl i
    have hf2 := hfl (i + 1)
    by_cases e : kq = 8
    · subst e
      rw [show (if (Sel.mk 8 nq lq).kind = 8 then (Sel.mk 8 nq lq).kids else [Sel.mk 8 nq lq]) = lq from if_pos rfl] at hsn
      rw [hsn, List.length_append] at hf2
      generalize flatV 8 (l.take i) = F at *
      repeat' (first | (refine fv_sl ?_) | (refine fh_ob ?_) | (refine idx_sl (k := i) (at_map hq) rfl ?_) | ((refine o_appL rfl rfl rfl rfl rfl rfl rfl rfl rfl rfl rfl (by rw [List.length_map, selRows_map, List.length_map]; omega) (by rw [List.length_map, selRows_map, List.length_map]; omega) ?_)) | refine o1 ?_ | refine o2 ?_ | refine k1 ?_ | refine k2 ?_ | refine k3 ?_ | refine k4 ?_ | refine k6 ?_ | refine And.intro ?_ ?_ | (intro h; first | exact Bool.noConfusion h | exact nz _ h | exact nl h | (simp at h; done) | (simp at h; first | (exfalso; omega) | skip) | skip) | exact (by kernel_rfl : drawOk _ _ = true) | refine eqv_wrap (by omega) (by omega) ?_ | fail)
      refine ⟨i + 1, by omega, by omega, ?_⟩
      rw [hsn, List.map_append, ← selRows_map lq]
      exact back [0, 1, 2, 3, 6] rfl rfl (by repeat' (first | exact trivial | exact rfl | refine kept_ob rfl ?_ | refine And.intro ?_ ?_)) (by repeat' (first | exact trivial | exact rfl | exact ren_get rfl | refine And.intro ?_ ?_))
    · rw [show (if (Sel.mk kq nq lq).kind = 8 then (Sel.mk kq nq lq).kids else [Sel.mk kq nq lq]) = [Sel.mk kq nq lq] from if_neg e] at hsn
      rw [hsn, List.length_append, List.length_singleton] at hf2
      generalize flatV 8 (l.take i) = F at *
      repeat' (first | (refine fv_sl ?_) | (refine fh_ob ?_) | (refine idx_sl (k := i) (at_map hq) rfl ?_) | ((refine o_app rfl rfl rfl rfl rfl rfl rfl rfl rfl rfl rfl (by rw [List.length_map]; omega) (by rw [List.length_map]; omega) ?_)) | refine o1 ?_ | refine o2 ?_ | refine k1 ?_ | refine k2 ?_ | refine k3 ?_ | refine k4 ?_ | refine k6 ?_ | refine And.intro ?_ ?_ | (intro h; first | exact Bool.noConfusion h | exact nz _ h | exact nl h | (simp at h; done) | (simp at h; first | (exfalso; omega) | skip) | skip) | exact (by kernel_rfl : drawOk _ _ = true) | refine eqv_wrap (by omega) (by omega) ?_ | fail)
      refine ⟨i + 1, by omega, by omega, ?_⟩
      rw [hsn, map_snoc, sl_app, ob_app]
      exact back [0, 1, 2, 3, 7] rfl rfl (by repeat' (first | exact trivial | exact rfl | refine And.intro ?_ ?_)) (by repeat' (first | exact trivial | exact rfl | refine And.intro ?_ ?_))
  · obtain rfl : i = l.length := by omega
    have hF := flat_ok (Or.inl rfl : (8 : Int) = 8 ∨ (8 : Int) = 9) hs
    have hFn := flat_ne hs hne (Or.inl rfl : (8 : Int) = 8 ∨ (8 : Int) = 9)
    have hFl := hfl l.length
    have hFv := lv_flat (k := 8) l
    have hJ : joinV 8 l = if (flatV 8 l).any (fun x => ordS x (evryV 8) == 0) then evryV 8 else packV 8 (dropV (nothV 8) (setV (flatV 8 l))) := rfl
    rw [hJ]
    clear hfl hJ
    rw [List.take_length] at *
    generalize flatV 8 l = F at *
    have hFL : ∀ q ∈ F, SelL q := fun q hq => selL_lv q (by have := lv_mem hq; omega)
    have hso := c_sortSel F hFL hFn (by omega)
    have e1 : slP 4 3 (F.map Sel.row) = .ms 4 3 0 F.length := sl_neS hFn
    have e2 : obP 52 3 (F.map Sel.row) = selO (F.map Sel.row) := ob_neS hFn
    rw [e1, e2]
    repeat' (first | refine o1 ?_ | refine o2 ?_ | refine k1 ?_ | refine k2 ?_ | refine k3 ?_ | refine k8 ?_ | refine And.intro ?_ ?_ | (intro h; first | exact Bool.noConfusion h | exact nz _ h | exact nl h | (simp at h; done) | (simp at h; first | (exfalso; omega) | skip) | skip) | fail)
    change vcFun _ _ _ _ _
    refine call_one (i := 4) rfl (fun _ _ => rfl) [.ms 0 3 0 F.length, .pv (.fn 42 [])] rfl hso ?_
    rintro r H' ⟨rfl, m, hp, hw, rfl⟩
    refine ⟨_, rfl, fun _ _ => rfl, fun _ _ => rfl, ?_⟩
    have hmn : m ≠ [] := fun e => hFn (by rw [e] at hp; exact hp.nil_eq.symm)
    have hco := c_compactO m (fun x hx => hFL x (hp.subset hx)) hmn (by rw [hp.length_eq]; omega)
    rw [comp_set hw fun x => hp.mem_iff, hp.length_eq] at hco
    clear hso hw hmn hp
    repeat' (first | refine o1 ?_ | refine o2 ?_ | refine k1 ?_ | refine k2 ?_ | fail)
    change vcFun _ _ _ _ _
    refine call_obj [4] [selO (m.map Sel.row)] [.ms 0 3 0 F.length, .pv (.fn 211 [])] rfl ⟨rfl, trivial⟩ rfl hco ?_
    rintro r H' ⟨rfl, J, rfl⟩
    refine ⟨Nat.le_refl _, ?_⟩
    have hVL : ∀ q ∈ setV F, SelL q := fun q hq => hFL q (setV_mem.1 hq)
    have hVv := lv_setV F
    have hVl := len_lv (setV F)
    have hany : F.any (fun x => ordS x (evryV 8) == 0) = (setV F).any fun x => ordS x (evryV 8) == 0 := by
      rw [Bool.eq_iff_iff, any_evry, any_evry, setV_mem]
    rw [hany]
    clear hco hFL hFn hFl e1 e2 hany
    generalize setV F = V at *
    have hA := c_anyO V J 213 [.ia [ei 10, es noN, .sl 3 [[ei 1, es noN, .val (.slice none 0 0)]]]] (fun x => ordS x (evryV 8) == 0) (by omega) fun x hx => c_isN x (hVL x hx)
    have hD := c_deleteO V J 213 [.ia [ei 1, es noN, .val (.slice none 0 0)]] (fun x => ordS x (nothV 8) == 0) (by omega) fun x hx => c_isA x (hVL x hx)
    have hD : ACall Tryz.prog 214 [.ms 0 3 0 V.length, .pv (.fn 213 [.ia [ei 1, es noN, .val (.slice none 0 0)]])] [selO (V.map Sel.row ++ J)] (fun r H' => r = .ms 0 3 0 (dropV (nothV 8) V).length ∧ ∃ J, H' = [selO ((dropV (nothV 8) V).map Sel.row ++ J)]) := hD
    generalize (V.any fun x => ordS x (evryV 8) == 0) = B at *
    generalize dropV (nothV 8) V = D at *
    repeat' (first | refine o1 ?_ | refine o2 ?_ | refine k1 ?_ | refine k2 ?_ | fail)
    change vcFun _ _ _ _ _
    refine call_frz rfl (by repeat' (first | trivial)) ALeL.refl (c_j2b 10 noN _) ?_
    rintro _ rfl
    repeat' (first | refine o1 ?_ | fail)
    change vcFun _ _ _ _ _
    refine call_one (i := 4) rfl (fun _ _ => rfl) [.ms 0 3 0 V.length, .pv (.fn 213 [.ia [ei 10, es noN, .sl 3 [[ei 1, es noN, .val (.slice none 0 0)]]]])] rfl hA ?_
    rintro r H' ⟨rfl, rfl⟩
    refine ⟨_, rfl, fun _ _ => rfl, fun _ _ => rfl, ?_⟩
    repeat' (first | refine o1 ?_ | refine o2 ?_ | refine k1 ?_ | refine k2 ?_ | refine k3 ?_ | refine k6 ?_ | refine k7 ?_ | refine And.intro ?_ ?_ | (intro h; first | exact Bool.noConfusion h | exact nz _ h | exact nl h | (simp at h; done) | (simp at h; first | (exfalso; omega) | skip) | skip) | (change retOk _ _ _ _; refine ret_pure rfl trivial ?_) | fail)
    · obtain rfl : B = true := by assumption
      rw [if_pos rfl]
      exact ⟨ALe.agg (ALe.pvs noneLe)⟩
    obtain rfl : B = false := by assumption
    rw [if_neg (by decide)]
    change vcFun _ _ _ _ _
    refine call_frz rfl (by repeat' (first | trivial)) ALeL.refl (c_j2a 1 noN) ?_
    rintro _ rfl
    repeat' (first | refine o1 ?_ | fail)
    change vcFun _ _ _ _ _
    refine call_obj [4] [selO (V.map Sel.row ++ J)] [.ms 0 3 0 V.length, .pv (.fn 213 [.ia [ei 1, es noN, .val (.slice none 0 0)]])] rfl ⟨rfl, trivial⟩ rfl hD ?_
    rintro r H' ⟨rfl, J, rfl⟩
    rcases D with _ | ⟨⟨kx, nx, lx⟩, _ | ⟨⟨ky, ny, ly⟩, D⟩⟩
    · refine ⟨Nat.le_refl _, ?_⟩
      repeat' (first | refine o1 ?_ | refine o2 ?_ | refine k1 ?_ | refine k2 ?_ | refine k3 ?_ | refine k4 ?_ | refine k7 ?_ | refine And.intro ?_ ?_ | (intro h; first | exact Bool.noConfusion h | exact nz _ h | exact nl h | (simp at h; done) | (simp at h; first | (exfalso; omega) | skip) | skip) | (change retOk _ _ _ _; refine ret_pure rfl trivial ?_) | fail)
      exact ⟨ALe.agg (ALe.pvs allLe)⟩
    · refine ⟨Nat.le_refl _, ?_⟩
      repeat' (first | (refine ⟨_, rfl, (Nat.le_of_ble_eq_true rfl), ?_⟩) | (refine ⟨_, rfl, ?_⟩) | refine o1 ?_ | refine o2 ?_ | refine k1 ?_ | refine k2 ?_ | refine k3 ?_ | refine k4 ?_ | refine k7 ?_ | refine And.intro ?_ ?_ | (intro h; first | exact Bool.noConfusion h | exact nz _ h | exact nl h | (simp at h; done) | (simp at h; first | (exfalso; omega) | skip) | skip) | (change retOk _ _ _ _; refine ret_pure rfl trivial ?_) | fail)
      rw [show packV 8 [Sel.mk kx nx lx] = Sel.mk kx nx lx from rfl]
      exact ⟨ALe.refl⟩
    · refine ⟨Nat.le_refl _, ?_⟩
      repeat' (first | refine o1 ?_ | refine o2 ?_ | refine k1 ?_ | refine k2 ?_ | refine k3 ?_ | refine k4 ?_ | refine k6 ?_ | refine k7 ?_ | refine And.intro ?_ ?_ | (intro h; first | exact Bool.noConfusion h | exact nz _ h | exact nl h | (simp at h; done) | (simp at h; first | (exfalso; omega) | skip) | skip) | fail)
      all_goals try (exfalso; simp at *; omega)
      rw [show packV 8 (Sel.mk kx nx lx :: Sel.mk ky ny ly :: D) = Sel.mk 8 noN (Sel.mk kx nx lx :: Sel.mk ky ny ly :: D) from rfl, row_mk]
      generalize Sel.mk kx nx lx :: Sel.mk ky ny ly :: D = D2 at *
      change retOk _ _ _ _
      refine ret_pure rfl (by repeat' (first | exact True.intro | refine And.intro ?_ ?_ | exact (show 0 + D2.length ≤ (D2.map Sel.row ++ J).length by rw [List.length_append, List.length_map]; omega))) ?_
      refine ⟨ALe.agg ⟨ALe.refl, ALe.refl, ALe.pv ?_, trivial⟩⟩
      have e3 : List.take D2.length (List.drop 0 (D2.map Sel.row ++ J)) = D2.map Sel.row := by rw [List.drop_zero, List.take_left' (List.length_map _)]
      rw [e3]
      exact PLe.refl
theorem c_joined9 (l : List Sel) (hne : l ≠ []) (hs : ∀ q ∈ l, IsS q) (hlv : lvL l ≤ 1000) : PCall Tryz.prog 109 [vint .i64 9, .pv (.sl 3 (l.map Sel.row))] (fun r => Leq r (ag (joinV 9 l).row)) := by
  have hl1 := len_lv l
  have hall := c_notAll
  have hfl : ∀ i, (flatV 9 (l.take i)).length ≤ 1000 := fun i => by
    have h1 := len_lv (flatV 9 (l.take i))
    have h2 := lv_flat (k := 9) (l.take i)
    have h3 : lvL (l.take i) ≤ lvL l := by
      have := lvL_app (l.take i) (l.drop i)
      rw [List.take_append_drop] at this; omega
    omega
  refine acall_of tok mixed 67 rfl (fn := Tryz.f109) (c := Tryz.f109.body.getD .skip) (by kernel_rfl) (by kernel_rfl) (by kernel_rfl) rfl 0 rfl ?_
  repeat' (first | ((change vcFunD _ _ _ _ _; refine callD_eq rfl (by repeat' (first | trivial | refine And.intro ?_ ?_ | (show 0 + _ ≤ List.length _; simp))) ALeL.refl hall rfl ?_)) | refine o1 ?_ | refine o2 ?_ | refine k1 ?_ | refine k2 ?_ | refine k3 ?_ | refine k4 ?_ | refine And.intro ?_ ?_ | refine o3 ?_ | refine o4 ?_ | (intro h; first | exact Bool.noConfusion h | exact nz _ h | exact nl h | (simp at h; done) | (simp at h; first | (exfalso; omega) | skip) | skip) | exact (by kernel_rfl : drawOk _ _ = true) | refine eqv_len_map ?_ | fail)
  refine loop_for (fun i : Nat => [(0, vint .i64 9), (4, .ptr 0 3 0 0), (6, .ptr 2 3 0 0), (7, .ptr 3 3 0 0), (8, slP 4 3 ((flatV 9 (l.take i)).map Sel.row)), (20, .pv (.sl 3 (l.map Sel.row))), (21, vint .i64 l.length), (22, vint .i64 i)])
    (fun i => [selB zeroC, selB [ei 1, es noN, .val (.slice none 0 0)], selB [ei 10, es noN, .sl 3 [[ei 1, es noN, .val (.slice none 0 0)]]], selB [ei 1, es noN, .val (.slice none 0 0)], obP 52 3 ((flatV 9 (l.take i)).map Sel.row)]) (fun i => i ≤ l.length) (fun i => l.length - i) 0 (Nat.zero_le _) ?_ ?_
  · exact back [0, 1, 2, 3, 4] rfl rfl (by repeat' (first | exact trivial | exact rfl | refine And.intro ?_ ?_)) (by repeat' (first | exact trivial | exact rfl | refine And.intro ?_ ?_))
  intro i hi
  rcases Nat.lt_or_ge i l.length with hlt | hge
  · obtain ⟨⟨kq, nq, lq⟩, hq⟩ := getE hlt
    have hsn := flat_succ (k := 9) hq
    have hf1 := hfl i
    have hf2 := hfl (i + 1)
    by_cases e : kq = 9
    · subst e
      rw [show (if (Sel.mk 9 nq lq).kind = 9 then (Sel.mk 9 nq lq).kids else [Sel.mk 9 nq lq]) = lq from if_pos rfl] at hsn
      rw [hsn, List.length_append] at hf2
      generalize flatV 9 (l.take i) = F at *
      repeat' (first | (refine fv_sl ?_) | (refine fh_ob ?_) | (refine idx_sl (k := i) (at_map hq) rfl ?_) | ((refine o_appL rfl rfl rfl rfl rfl rfl rfl rfl rfl rfl rfl (by rw [List.length_map, selRows_map, List.length_map]; omega) (by rw [List.length_map, selRows_map, List.length_map]; omega) ?_)) | refine o1 ?_ | refine o2 ?_ | refine k1 ?_ | refine k2 ?_ | refine k3 ?_ | refine k4 ?_ | refine k6 ?_ | refine And.intro ?_ ?_ | (intro h; first | exact Bool.noConfusion h | exact nz _ h | exact nl h | (simp at h; done) | (simp at h; first | (exfalso; omega) | skip) | skip) | exact (by kernel_rfl : drawOk _ _ = true) | refine eqv_wrap (by omega) (by omega) ?_ | fail)
      refine ⟨i + 1, by omega, by omega, ?_⟩
      rw [hsn, List.map_append, ← selRows_map lq]
      exact back [0, 1, 2, 3, 6] rfl rfl (by repeat' (first | exact trivial | exact rfl | refine kept_ob rfl ?_ | refine And.intro ?_ ?_)) (by repeat' (first | exact trivial | exact rfl | exact ren_get rfl | refine And.intro ?_ ?_))
    · rw [show (if (Sel.mk kq nq lq).kind = 9 then (Sel.mk kq nq lq).kids else [Sel.mk kq nq lq]) = [Sel.mk kq nq lq] from if_neg e] at hsn
      rw [hsn, List.length_append, List.length_singleton] at hf2
      generalize flatV 9 (l.take i) = F at *
      repeat' (first | (refine fv_sl ?_) | (refine fh_ob ?_) | (refine idx_sl (k := i) (at_map hq) rfl ?_) | ((refine o_app rfl rfl rfl rfl rfl rfl rfl rfl rfl rfl rfl (by rw [List.length_map]; omega) (by rw [List.length_map]; omega) ?_)) | refine o1 ?_ | refine o2 ?_ | refine k1 ?_ | refine k2 ?_ | refine k3 ?_ | refine k4 ?_ | refine k6 ?_ | refine And.intro ?_ ?_ | (intro h; first | exact Bool.noConfusion h | exact nz _ h | exact nl h | (simp at h; done) | (simp at h; first | (exfalso; omega) | skip) | skip) | exact (by kernel_rfl : drawOk _ _ = true) | refine eqv_wrap (by omega) (by omega) ?_ | fail)
      refine ⟨i + 1, by omega, by omega, ?_⟩
      rw [hsn, map_snoc, sl_app, ob_app]
      exact back [0, 1, 2, 3, 7] rfl rfl (by repeat' (first | exact trivial | exact rfl | refine And.intro ?_ ?_)) (by repeat' (first | exact trivial | exact rfl | refine And.intro ?_ ?_))
  · obtain rfl : i = l.length := by omega
    have hF := flat_ok (Or.inr rfl : (9 : Int) = 8 ∨ (9 : Int) = 9) hs
    have hFn := flat_ne hs hne (Or.inr rfl : (9 : Int) = 8 ∨ (9 : Int) = 9)
    have hFl := hfl l.length
    have hFv := lv_flat (k := 9) l
    have hJ : joinV 9 l = if (flatV 9 l).any (fun x => ordS x (evryV 9) == 0) then evryV 9 else packV 9 (dropV (nothV 9) (setV (flatV 9 l))) := rfl
    rw [hJ]
    clear hfl hJ
    rw [List.take_length] at *
    generalize flatV 9 l = F at *
    have hFL : ∀ q ∈ F, SelL q := fun q hq => selL_lv q (by have := lv_mem hq; omega)
    have hso := c_sortSel F hFL hFn (by omega)
    have e1 : slP 4 3 (F.map Sel.row) = .ms 4 3 0 F.length := sl_neS hFn
    have e2 : obP 52 3 (F.map Sel.row) = selO (F.map Sel.row) := ob_neS hFn
    rw [e1, e2]
    repeat' (first | refine o1 ?_ | refine o2 ?_ | refine k1 ?_ | refine k2 ?_ | refine k3 ?_ | refine k8 ?_ | refine And.intro ?_ ?_ | (intro h; first | exact Bool.noConfusion h | exact nz _ h | exact nl h | (simp at h; done) | (simp at h; first | (exfalso; omega) | skip) | skip) | fail)
    change vcFun _ _ _ _ _
    refine call_one (i := 4) rfl (fun _ _ => rfl) [.ms 0 3 0 F.length, .pv (.fn 42 [])] rfl hso ?_
    rintro r H' ⟨rfl, m, hp, hw, rfl⟩
    refine ⟨_, rfl, fun _ _ => rfl, fun _ _ => rfl, ?_⟩
    have hmn : m ≠ [] := fun e => hFn (by rw [e] at hp; exact hp.nil_eq.symm)
    have hco := c_compactO m (fun x hx => hFL x (hp.subset hx)) hmn (by rw [hp.length_eq]; omega)
    rw [comp_set hw fun x => hp.mem_iff, hp.length_eq] at hco
    clear hso hw hmn hp
    repeat' (first | refine o1 ?_ | refine o2 ?_ | refine k1 ?_ | refine k2 ?_ | fail)
    change vcFun _ _ _ _ _
    refine call_obj [4] [selO (m.map Sel.row)] [.ms 0 3 0 F.length, .pv (.fn 211 [])] rfl ⟨rfl, trivial⟩ rfl hco ?_
    rintro r H' ⟨rfl, J, rfl⟩
    refine ⟨Nat.le_refl _, ?_⟩
    have hVL : ∀ q ∈ setV F, SelL q := fun q hq => hFL q (setV_mem.1 hq)
    have hVv := lv_setV F
    have hVl := len_lv (setV F)
    have hany : F.any (fun x => ordS x (evryV 9) == 0) = (setV F).any fun x => ordS x (evryV 9) == 0 := by
      rw [Bool.eq_iff_iff, any_evry, any_evry, setV_mem]
    rw [hany]
    clear hco hFL hFn hFl e1 e2 hany
    generalize setV F = V at *
    have hA := c_anyO V J 213 [.ia [ei 1, es noN, .val (.slice none 0 0)]] (fun x => ordS x (evryV 9) == 0) (by omega) fun x hx => c_isA x (hVL x hx)
    have hD := c_deleteO V J 213 [.ia [ei 10, es noN, .sl 3 [[ei 1, es noN, .val (.slice none 0 0)]]]] (fun x => ordS x (nothV 9) == 0) (by omega) fun x hx => c_isN x (hVL x hx)
    have hD : ACall Tryz.prog 214 [.ms 0 3 0 V.length, .pv (.fn 213 [.ia [ei 10, es noN, .sl 3 [[ei 1, es noN, .val (.slice none 0 0)]]]])] [selO (V.map Sel.row ++ J)] (fun r H' => r = .ms 0 3 0 (dropV (nothV 9) V).length ∧ ∃ J, H' = [selO ((dropV (nothV 9) V).map Sel.row ++ J)]) := hD
    generalize (V.any fun x => ordS x (evryV 9) == 0) = B at *
    generalize dropV (nothV 9) V = D at *
    repeat' (first | refine o1 ?_ | refine o2 ?_ | refine k1 ?_ | refine k2 ?_ | fail)
    change vcFun _ _ _ _ _
    refine call_frz rfl (by repeat' (first | trivial)) ALeL.refl (c_j2a 1 noN) ?_
    rintro _ rfl
    repeat' (first | refine o1 ?_ | fail)
    change vcFun _ _ _ _ _
    refine call_one (i := 4) rfl (fun _ _ => rfl) [.ms 0 3 0 V.length, .pv (.fn 213 [.ia [ei 1, es noN, .val (.slice none 0 0)]])] rfl hA ?_
    rintro r H' ⟨rfl, rfl⟩
    refine ⟨_, rfl, fun _ _ => rfl, fun _ _ => rfl, ?_⟩
    repeat' (first | refine o1 ?_ | refine o2 ?_ | refine k1 ?_ | refine k2 ?_ | refine k3 ?_ | refine k6 ?_ | refine k7 ?_ | refine And.intro ?_ ?_ | (intro h; first | exact Bool.noConfusion h | exact nz _ h | exact nl h | (simp at h; done) | (simp at h; first | (exfalso; omega) | skip) | skip) | (change retOk _ _ _ _; refine ret_pure rfl trivial ?_) | fail)
    · obtain rfl : B = true := by assumption
      rw [if_pos rfl]
      exact ⟨ALe.agg (ALe.pvs allLe)⟩
    obtain rfl : B = false := by assumption
    rw [if_neg (by decide)]
    change vcFun _ _ _ _ _
    refine call_frz rfl (by repeat' (first | trivial)) ALeL.refl (c_j2b 10 noN _) ?_
    rintro _ rfl
    repeat' (first | refine o1 ?_ | fail)
    change vcFun _ _ _ _ _
    refine call_obj [4] [selO (V.map Sel.row ++ J)] [.ms 0 3 0 V.length, .pv (.fn 213 [.ia [ei 10, es noN, .sl 3 [[ei 1, es noN, .val (.slice none 0 0)]]]])] rfl ⟨rfl, trivial⟩ rfl hD ?_
    rintro r H' ⟨rfl, J, rfl⟩
    rcases D with _ | ⟨⟨kx, nx, lx⟩, _ | ⟨⟨ky, ny, ly⟩, D⟩⟩
    · refine ⟨Nat.le_refl _, ?_⟩
      repeat' (first | refine o1 ?_ | refine o2 ?_ | refine k1 ?_ | refine k2 ?_ | refine k3 ?_ | refine k4 ?_ | refine k7 ?_ | refine And.intro ?_ ?_ | (intro h; first | exact Bool.noConfusion h | exact nz _ h | exact nl h | (simp at h; done) | (simp at h; first | (exfalso; omega) | skip) | skip) | (change retOk _ _ _ _; refine ret_pure rfl trivial ?_) | fail)
      exact ⟨ALe.agg (ALe.pvs noneLe)⟩
    · refine ⟨Nat.le_refl _, ?_⟩
      repeat' (first | (refine ⟨_, rfl, (Nat.le_of_ble_eq_true rfl), ?_⟩) | (refine ⟨_, rfl, ?_⟩) | refine o1 ?_ | refine o2 ?_ | refine k1 ?_ | refine k2 ?_ | refine k3 ?_ | refine k4 ?_ | refine k7 ?_ | refine And.intro ?_ ?_ | (intro h; first | exact Bool.noConfusion h | exact nz _ h | exact nl h | (simp at h; done) | (simp at h; first | (exfalso; omega) | skip) | skip) | (change retOk _ _ _ _; refine ret_pure rfl trivial ?_) | fail)
      rw [show packV 9 [Sel.mk kx nx lx] = Sel.mk kx nx lx from rfl]
      exact ⟨ALe.refl⟩
    · refine ⟨Nat.le_refl _, ?_⟩
      repeat' (first | refine o1 ?_ | refine o2 ?_ | refine k1 ?_ | refine k2 ?_ | refine k3 ?_ | refine k4 ?_ | refine k6 ?_ | refine k7 ?_ | refine And.intro ?_ ?_ | (intro h; first | exact Bool.noConfusion h | exact nz _ h | exact nl h | (simp at h; done) | (simp at h; first | (exfalso; omega) | skip) | skip) | fail)
      all_goals try (exfalso; simp at *; omega)
      rw [show packV 9 (Sel.mk kx nx lx :: Sel.mk ky ny ly :: D) = Sel.mk 9 noN (Sel.mk kx nx lx :: Sel.mk ky ny ly :: D) from rfl, row_mk]
      generalize Sel.mk kx nx lx :: Sel.mk ky ny ly :: D = D2 at *
      change retOk _ _ _ _
      refine ret_pure rfl (by repeat' (first | exact True.intro | refine And.intro ?_ ?_ | exact (show 0 + D2.length ≤ (D2.map Sel.row ++ J).length by rw [List.length_append, List.length_map]; omega))) ?_
      refine ⟨ALe.agg ⟨ALe.refl, ALe.refl, ALe.pv ?_, trivial⟩⟩
      have e3 : List.take D2.length (List.drop 0 (D2.map Sel.row ++ J)) = D2.map Sel.row := by rw [List.drop_zero, List.take_left' (List.length_map _)]
      rw [e3]
      exact PLe.refl
theorem c_pjoined (k : Int) (hk : k = 8 ∨ k = 9) (l : List Sel) (hne : l ≠ []) (hs : ∀ q ∈ l, IsS q) (hlv : lvL l ≤ 1000) : PCall Tryz.prog 109 [vint .i64 k, .pv (.sl 3 (l.map Sel.row))] (fun r => r = ag (joinV k l).row) := by
  rcases hk with rfl | rfl
  · exact (c_joined8 l hne hs hlv).weak fun r h => ⟨_, h.le, rfl⟩
  · exact (c_joined9 l hne hs hlv).weak fun r h => ⟨_, h.le, rfl⟩
end Go.Proofs.YtkbaecjnhmbeeaaGreat.Cw
/-
  selection.not, negated, simple, Simple.
-/
namespace Go.Proofs.YtkbaecjnhmbeeaaGreat.Cw
open Go Go.Cw Go.Proofs
set_option linter.unusedVariables false
set_option maxRecDepth 100000
set_option maxHeartbeats 8000000
def PNotOk (s : Sel) : Prop := PCall Tryz.prog 108 [ag s.row] (fun r => r = ag (notV s).row)
theorem c_negated0 (l : List Sel) (hl : l.length ≤ 1000) (h : ∀ q ∈ l, PNotOk q) : PCall Tryz.prog 208 [.pv (.sl 3 (l.map Sel.row))] (fun r => Leq r (.pv (.sl 3 ((notL l).map Sel.row)))) := by
  rw [notL_map]
  refine acall_of tok mixed 19 rfl (fn := Tryz.f208) (c := Tryz.f208.body.getD .skip) (by kernel_rfl) (by kernel_rfl) (by kernel_rfl) rfl 0 rfl ?_
  repeat' (first | refine o1 ?_ | refine o2 ?_ | refine k1 ?_ | refine k2 ?_ | refine k4 ?_ | refine eqv_len_map ?_ | fail)
  refine loop_for (fun i : Nat => [(3, slP 0 3 (((l.take i).map notV).map Sel.row)), (6, .pv (.sl 3 (l.map Sel.row))), (7, vint .i64 l.length), (8, vint .i64 i)]) (fun i => [obP 52 3 (((l.take i).map notV).map Sel.row)]) (fun i => i ≤ l.length) (fun i => l.length - i) 0 (Nat.zero_le _) ?_ ?_
  · exact back [0] rfl rfl (by repeat' (first | exact trivial)) (by repeat' (first | exact trivial | exact rfl | refine And.intro ?_ ?_))
  intro i hi
  rcases Nat.lt_or_ge i l.length with hlt | hge
  · obtain ⟨q, hq⟩ := getE hlt
    have hc := h q (List.mem_of_getElem? hq)
    unfold PNotOk at hc
    have hsn : (l.take (i + 1)).map notV = (l.take i).map notV ++ [notV q] := by rw [take_snoc hq, List.map_append]; rfl
    have hln : ((l.take i).map notV).length ≤ 1000 := by rw [List.length_map, List.length_take]; omega
    generalize (l.take i).map notV = F at *
    generalize notV q = q2 at *
    obtain ⟨kq, nq, lq⟩ := q
    obtain ⟨kp, np, lp⟩ := q2
    repeat' (first | (refine fv_sl ?_) | (refine fh_ob ?_) | (refine idx_sl (k := i) (at_map hq) rfl ?_) | ((change vcFun _ _ _ _ _; refine call_frz rfl (by repeat' (first | trivial | refine And.intro ?_ ?_ | (show 0 + _ ≤ List.length _; simp))) ALeL.refl hc ?_; rintro _ rfl)) | ((refine o_app rfl rfl rfl rfl rfl rfl rfl rfl rfl rfl rfl (by rw [List.length_map]; omega) (by rw [List.length_map]; omega) ?_)) | refine o1 ?_ | refine o2 ?_ | refine k1 ?_ | refine k2 ?_ | refine k3 ?_ | refine k4 ?_ | refine k6 ?_ | refine And.intro ?_ ?_ | (intro h; first | exact Bool.noConfusion h | exact nz _ h | exact nl h | (simp at h; done) | (simp at h; first | (exfalso; omega) | skip) | skip) | exact (by kernel_rfl : drawOk _ _ = true) | refine eqv_wrap (by omega) (by omega) ?_ | fail)
    refine ⟨i + 1, by omega, by omega, ?_⟩
    rw [hsn, map_snoc, sl_app, ob_app]
    exact back [3] rfl rfl (by repeat' (first | exact trivial | exact rfl | refine And.intro ?_ ?_)) (by repeat' (first | exact trivial | exact rfl | refine And.intro ?_ ?_))
  · obtain rfl : i = l.length := by omega
    rw [List.take_length]
    repeat' (first | (refine fv_sl ?_) | (refine fh_ob ?_) | refine o1 ?_ | refine o2 ?_ | refine k1 ?_ | refine k2 ?_ | refine k3 ?_ | refine k7 ?_ | refine k8 ?_ | refine And.intro ?_ ?_ | (intro h; first | exact Bool.noConfusion h | exact nz _ h | exact nl h | (simp at h; done) | (simp at h; first | (exfalso; omega) | skip) | skip) | fail)
    all_goals first
      | exact ret_sl rfl ⟨ALe.refl⟩ leq_down
theorem c_negated (l : List Sel) (hl : l.length ≤ 1000) (h : ∀ q ∈ l, PNotOk q) : PCall Tryz.prog 208 [.pv (.sl 3 (l.map Sel.row))] (fun r => r = .pv (.sl 3 ((notL l).map Sel.row))) := (c_negated0 l hl h).weak fun r k => ⟨_, k.le, rfl⟩
theorem c_pnot0 : ∀ (s : Sel) (hs : IsS s) (hlv : lv s ≤ 1000), PCall Tryz.prog 108 [ag s.row] (fun r => Leq r (ag (notV s).row))
  | _, .leaf (k := k) (n := n) h, hlv => by
    rw [notV, if_neg (by omega), if_neg (by omega), if_neg (by omega), row_mk, row_mk (k := 10)]
    have e1 : (k == 10) = false := beq_eq_false_iff_ne.2 (by omega)
    have e2 : (k == 8) = false := beq_eq_false_iff_ne.2 (by omega)
    have e3 : (k == 9) = false := beq_eq_false_iff_ne.2 (by omega)
    refine acall_of tok mixed 26 rfl (fn := Tryz.f108) (c := Tryz.f108.body.getD .skip) (by kernel_rfl) (by kernel_rfl) (by kernel_rfl) rfl 0 rfl ?_
    repeat' (first | refine o1 ?_ | refine o2 ?_ | refine k1 ?_ | refine k2 ?_ | refine k3 ?_ | refine k4 ?_ | refine k6 ?_ | refine k7 ?_ | refine And.intro ?_ ?_ | (intro h; first | exact Bool.noConfusion h | exact nz _ h | exact nl h | (simp at h; done) | (simp at h; first | (exfalso; omega) | skip) | skip) | exact (by kernel_rfl : drawOk _ _ = true) | fail)
    all_goals try (exfalso; simp_all; done)
    all_goals try (exfalso; omega)
    all_goals first
      | (change retOk _ _ _ _; refine ret_pure rfl (by repeat' (first | exact True.intro | refine And.intro ?_ ?_ | exact Nat.le_refl _)) ?_; exact ⟨ALe.refl⟩)
  | _, .not_ (k := k) (n := n) h, hlv => by
    rw [notV, if_pos rfl, row_mk]
    show PCall _ _ _ (fun r => Leq r (ag (Sel.row (.mk k n []))))
    refine acall_of tok mixed 26 rfl (fn := Tryz.f108) (c := Tryz.f108.body.getD .skip) (by kernel_rfl) (by kernel_rfl) (by kernel_rfl) rfl 0 rfl ?_
    repeat' (first | (refine idx_sl (k := 0) rfl rfl ?_) | refine o1 ?_ | refine o2 ?_ | refine k1 ?_ | refine k2 ?_ | refine k3 ?_ | refine k4 ?_ | refine k7 ?_ | refine And.intro ?_ ?_ | (intro h; first | exact Bool.noConfusion h | exact nz _ h | exact nl h | (simp at h; done) | (simp at h; first | (exfalso; omega) | skip) | skip) | (change retOk _ _ _ _; refine ret_pure rfl trivial ?_) | exact (by kernel_rfl : drawOk _ _ = true) | fail)
    all_goals first
      | exact ⟨ALe.refl⟩
  | _, .join (k := k) (l := l) hk hs hkd ho h2 he hn, hlv => by
    have hne : l ≠ [] := fun e => by rw [e] at h2; simp at h2
    rw [lv_mk hne] at hlv
    have hln := len_lv l
    have hng := c_negated l (by omega) fun q hq => (c_pnot0 q (hs q hq) (by have := lv_mem hq; omega)).weak fun r h => ⟨_, h.le, rfl⟩
    have hN : ∀ q ∈ notL l, IsS q := fun q hq => by
      rw [notL_map] at hq
      obtain ⟨x, hx, rfl⟩ := List.mem_map.1 hq
      exact not_ok (hs x hx)
    have hNv : lvL (notL l) ≤ lvL l := by rw [notL_map]; exact lvL_map fun q hq => lv_not (hs q hq)
    have hNn : notL l ≠ [] := by rw [notL_map]; simpa using hne
    have hj8 := c_pjoined 8 (.inl rfl) (notL l) hNn hN (by omega)
    have hj9 := c_pjoined 9 (.inr rfl) (notL l) hNn hN (by omega)
    rw [notV, if_neg (by omega), row_mk]
    generalize notL l = L at *
    rcases hk with rfl | rfl
    · rw [if_pos rfl]
      generalize joinV 9 L = Z at *
      obtain ⟨kz, nz', lz⟩ := Z
      refine acall_of tok mixed 26 rfl (fn := Tryz.f108) (c := Tryz.f108.body.getD .skip) (by kernel_rfl) (by kernel_rfl) (by kernel_rfl) rfl 0 rfl ?_
      repeat' (first | ((change vcFun _ _ _ _ _; refine call_frz rfl (by repeat' (first | trivial | refine And.intro ?_ ?_ | (show 0 + _ ≤ List.length _; simp))) ALeL.refl hng ?_; rintro _ rfl)) | ((change vcFun _ _ _ _ _; refine call_frz rfl (by repeat' (first | trivial | refine And.intro ?_ ?_ | (show 0 + _ ≤ List.length _; simp))) ALeL.refl hj9 ?_; rintro _ rfl)) | refine o1 ?_ | refine o2 ?_ | refine k1 ?_ | refine k2 ?_ | refine k3 ?_ | refine k4 ?_ | refine k7 ?_ | refine And.intro ?_ ?_ | (intro h; first | exact Bool.noConfusion h | exact nz _ h | exact nl h | (simp at h; done) | (simp at h; first | (exfalso; omega) | skip) | skip) | (change retOk _ _ _ _; refine ret_pure rfl trivial ?_) | exact (by kernel_rfl : drawOk _ _ = true) | fail)
      all_goals first
        | exact ⟨ALe.refl⟩
    · rw [if_neg (by decide), if_pos rfl]
      generalize joinV 8 L = Z at *
      obtain ⟨kz, nz', lz⟩ := Z
      refine acall_of tok mixed 26 rfl (fn := Tryz.f108) (c := Tryz.f108.body.getD .skip) (by kernel_rfl) (by kernel_rfl) (by kernel_rfl) rfl 0 rfl ?_
      repeat' (first | ((change vcFun _ _ _ _ _; refine call_frz rfl (by repeat' (first | trivial | refine And.intro ?_ ?_ | (show 0 + _ ≤ List.length _; simp))) ALeL.refl hng ?_; rintro _ rfl)) | ((change vcFun _ _ _ _ _; refine call_frz rfl (by repeat' (first | trivial | refine And.intro ?_ ?_ | (show 0 + _ ≤ List.length _; simp))) ALeL.refl hj8 ?_; rintro _ rfl)) | refine o1 ?_ | refine o2 ?_ | refine k1 ?_ | refine k2 ?_ | refine k3 ?_ | refine k4 ?_ | refine k7 ?_ | refine And.intro ?_ ?_ | (intro h; first | exact Bool.noConfusion h | exact nz _ h | exact nl h | (simp at h; done) | (simp at h; first | (exfalso; omega) | skip) | skip) | (change retOk _ _ _ _; refine ret_pure rfl trivial ?_) | exact (by kernel_rfl : drawOk _ _ = true) | fail)
      all_goals first
        | exact ⟨ALe.refl⟩
theorem c_pnot (s : Sel) (hs : IsS s) (hlv : lv s ≤ 1000) : PNotOk s := (c_pnot0 s hs hlv).weak fun r k => ⟨_, k.le, rfl⟩
end Go.Proofs.YtkbaecjnhmbeeaaGreat.Cw
/-
  selection.simple, Simple.
-/
namespace Go.Proofs.YtkbaecjnhmbeeaaGreat.Cw
open Go Go.Cw Go.Proofs
set_option linter.unusedVariables false
set_option maxRecDepth 100000
set_option maxHeartbeats 8000000
def PSimpOk (a b : Sel) : Prop := PCall Tryz.prog 39 [ag a.row] (fun r => r = ag b.row)
theorem c_simpK (k : Int) (n : Str) (l : List Sel) (f : Sel → Sel) (Z : Sel) (hl : l.length ≤ 1000) (h : ∀ q ∈ l, PSimpOk q (f q))
    (hZ : (k = 10 ∧ ∃ q, l = [q] ∧ PNotOk (f q) ∧ Z = notV (f q)) ∨ ((k = 8 ∨ k = 9) ∧ l ≠ [] ∧ PCall Tryz.prog 109 [vint .i64 k, .pv (.sl 3 ((l.map f).map Sel.row))] (fun r => r = ag Z.row)) ∨ ((1 ≤ k ∧ k ≤ 7) ∧ Z = .mk k n l)) :
    PCall Tryz.prog 39 [ag (Sel.row (.mk k n l))] (fun r => Leq r (ag Z.row)) := by
  rw [row_mk]
  refine acall_of tok mixed 35 rfl (fn := Tryz.f39) (c := Tryz.f39.body.getD .skip) (by kernel_rfl) (by kernel_rfl) (by kernel_rfl) rfl 0 rfl ?_
  repeat' (first | refine o1 ?_ | refine o2 ?_ | refine k1 ?_ | refine k2 ?_ | refine k4 ?_ | refine And.intro ?_ ?_ | exact (by kernel_rfl : drawOk _ _ = true) | refine eqv_len_map ?_ | fail)
  refine loop_for (fun i : Nat => [(1, .ptr 0 3 0 0), (2, .ptr 1 3 0 0), (3, slP 2 3 (((l.take i).map f).map Sel.row)), (7, .pv (.sl 3 (l.map Sel.row))), (8, vint .i64 l.length), (9, vint .i64 i)]) (fun i => [selB [ei k, es n, .sl 3 (l.map Sel.row)], selB zeroC, obP 52 3 (((l.take i).map f).map Sel.row)]) (fun i => i ≤ l.length) (fun i => l.length - i) 0 (Nat.zero_le _) ?_ ?_
  · exact back [0, 1, 2] rfl rfl (by repeat' (first | exact trivial | exact rfl | refine And.intro ?_ ?_)) (by repeat' (first | exact trivial | exact rfl | refine And.intro ?_ ?_))
  intro i hi
  rcases Nat.lt_or_ge i l.length with hlt | hge
  · obtain ⟨q, hq⟩ := getE hlt
    have hc := h q (List.mem_of_getElem? hq)
    unfold PSimpOk at hc
    have hsn : (l.take (i + 1)).map f = (l.take i).map f ++ [f q] := by rw [take_snoc hq, List.map_append]; rfl
    have hln : ((l.take i).map f).length ≤ 1000 := by rw [List.length_map, List.length_take]; omega
    generalize (l.take i).map f = F at *
    generalize f q = q2 at *
    obtain ⟨kq, nq, lq⟩ := q
    obtain ⟨kp, np, lp⟩ := q2
    repeat' (first | (refine fv_sl ?_) | (refine fh_ob ?_) | (refine idx_sl (k := i) (at_map hq) rfl ?_) | ((change vcFun _ _ _ _ _; refine call_frz rfl (by repeat' (first | trivial | refine And.intro ?_ ?_ | (show 0 + _ ≤ List.length _; simp))) ALeL.refl hc ?_; rintro _ rfl)) | ((refine o_app rfl rfl rfl rfl rfl rfl rfl rfl rfl rfl rfl (by rw [List.length_map]; omega) (by rw [List.length_map]; omega) ?_)) | refine o1 ?_ | refine o2 ?_ | refine k1 ?_ | refine k2 ?_ | refine k3 ?_ | refine k4 ?_ | refine k6 ?_ | refine And.intro ?_ ?_ | (intro h; first | exact Bool.noConfusion h | exact nz _ h | exact nl h | (simp at h; done) | (simp at h; first | (exfalso; omega) | skip) | skip) | exact (by kernel_rfl : drawOk _ _ = true) | refine eqv_wrap (by omega) (by omega) ?_ | fail)
    all_goals first
      | (refine ⟨i + 1, by omega, by omega, ?_⟩
         rw [hsn, map_snoc, sl_app, ob_app]
         exact back [0, 1, 5] rfl rfl (by repeat' (first | exact trivial | exact rfl | refine And.intro ?_ ?_)) (by repeat' (first | exact trivial | exact rfl | refine And.intro ?_ ?_)))
  · obtain rfl : i = l.length := by omega
    rw [List.take_length]
    clear h
    rcases hZ with ⟨rfl, q, rfl, hn, rfl⟩ | ⟨hk, hne, hj⟩ | ⟨hk, rfl⟩
    · unfold PNotOk at hn
      rw [show [q].map f = [f q] from rfl]
      generalize f q = y at *
      generalize notV y = Z at *
      obtain ⟨ky, ny, ly⟩ := y
      obtain ⟨kz, nz', lz⟩ := Z
      repeat' (first | (refine ⟨_, rfl, (Nat.le_of_ble_eq_true rfl), ?_⟩) | (refine ⟨_, rfl, ?_⟩) | ((change vcFun _ _ _ _ _; refine call_frz rfl (by repeat' (first | trivial | refine And.intro ?_ ?_ | (show 0 + _ ≤ List.length _; simp))) ALeL.refl hn ?_; rintro _ rfl)) | refine o1 ?_ | refine o2 ?_ | refine k1 ?_ | refine k2 ?_ | refine k3 ?_ | refine k4 ?_ | refine k7 ?_ | refine k8 ?_ | refine And.intro ?_ ?_ | (intro h; first | exact Bool.noConfusion h | exact nz _ h | exact nl h | (simp at h; done) | (simp at h; first | (exfalso; omega) | skip) | skip) | (change retOk _ _ _ _; refine ret_pure rfl trivial ?_) | fail)
      all_goals first
        | exact ⟨ALe.refl⟩
    · have hFn : l.map f ≠ [] := by simpa using hne
      have e1 : slP 2 3 ((l.map f).map Sel.row) = .ms 2 3 0 (l.map f).length := sl_neS hFn
      have e2 : obP 52 3 ((l.map f).map Sel.row) = selO ((l.map f).map Sel.row) := ob_neS hFn
      rw [e1, e2]
      have hle : ALeL [vint .i64 k, .pv (.sl 3 (List.take (l.map f).length (List.drop 0 ((l.map f).map Sel.row))))] [vint .i64 k, .pv (.sl 3 ((l.map f).map Sel.row))] := ⟨ALe.refl, ALe.pv (whole_le (l := l.map f) (f := Sel.row) (Nat.le_refl _)), trivial⟩
      have hok : 0 + (l.map f).length ≤ ((l.map f).map Sel.row).length := by simp
      generalize l.map f = F at *
      obtain ⟨kz, nz', lz⟩ := Z
      rcases hk with rfl | rfl
      · repeat' (first | ((change vcFun _ _ _ _ _; refine call_frz rfl (by repeat' (first | exact True.intro | refine And.intro ?_ ?_ | exact hok)) hle hj ?_; rintro _ rfl)) | refine o1 ?_ | refine o2 ?_ | refine k1 ?_ | refine k2 ?_ | refine k3 ?_ | refine k4 ?_ | refine k6 ?_ | refine k7 ?_ | refine k8 ?_ | refine And.intro ?_ ?_ | (intro h; first | exact Bool.noConfusion h | exact nz _ h | exact nl h | (simp at h; done) | (simp at h; first | (exfalso; omega) | skip) | skip) | (change retOk _ _ _ _; refine ret_pure rfl trivial ?_) | fail)
        all_goals first
          | exact ⟨ALe.refl⟩
      · repeat' (first | ((change vcFun _ _ _ _ _; refine call_frz rfl (by repeat' (first | exact True.intro | refine And.intro ?_ ?_ | exact hok)) hle hj ?_; rintro _ rfl)) | refine o1 ?_ | refine o2 ?_ | refine k1 ?_ | refine k2 ?_ | refine k3 ?_ | refine k4 ?_ | refine k7 ?_ | refine k8 ?_ | refine And.intro ?_ ?_ | (intro h; first | exact Bool.noConfusion h | exact nz _ h | exact nl h | (simp at h; done) | (simp at h; first | (exfalso; omega) | skip) | skip) | (change retOk _ _ _ _; refine ret_pure rfl trivial ?_) | fail)
        all_goals first
          | exact ⟨ALe.refl⟩
    · have e1 : (k == 10) = false := beq_eq_false_iff_ne.2 (by omega)
      have e2 : (k == 8) = false := beq_eq_false_iff_ne.2 (by omega)
      have e3 : (k == 9) = false := beq_eq_false_iff_ne.2 (by omega)
      rw [row_mk]
      repeat' (first | (refine fh_ob ?_) | refine o1 ?_ | refine o2 ?_ | refine k1 ?_ | refine k2 ?_ | refine k3 ?_ | refine k4 ?_ | refine k6 ?_ | refine k7 ?_ | refine k8 ?_ | refine And.intro ?_ ?_ | (intro h; first | exact Bool.noConfusion h | exact nz _ h | exact nl h | (simp at h; done) | (simp at h; first | (exfalso; omega) | skip) | skip) | (change retOk _ _ _ _; refine ret_pure rfl trivial ?_) | fail)
      all_goals try (exfalso; omega)
      all_goals first
        | exact ⟨ALe.refl⟩
theorem c_psimple0 : ∀ (s : Sel) (hs : IsR s) (hlv : lv s ≤ 1000), PCall Tryz.prog 39 [ag s.row] (fun r => Leq r (ag (simpV s).row))
  | _, .leaf (k := k) (n := n) h, hlv => by
    rw [simpV, if_neg (by omega), if_neg (by omega)]
    exact c_simpK k n [] id _ (by simp) (fun q hq => by cases hq) (.inr (.inr ⟨h, rfl⟩))
  | _, .not_ (s := s) h, hlv => by
    have h1 : lv s ≤ 1000 := by rw [lv_mk (by simp), lvL_cons, lvL_nil] at hlv; omega
    have h2 := lv_simp h
    rw [simpV, if_pos rfl, simpL, simpL]
    exact c_simpK 10 noN [s] simpV _ (by simp) (fun q hq => by
      rw [List.mem_singleton.1 hq]
      exact (c_psimple0 s h h1).weak fun r k => ⟨_, k.le, rfl⟩) (.inl ⟨rfl, s, rfl, c_pnot _ (simp_ok h) (by omega), rfl⟩)
  | _, .join (k := k) (l := l) hk hs h2, hlv => by
    have hne : l ≠ [] := fun e => by rw [e] at h2; simp at h2
    rw [lv_mk hne] at hlv
    have hln := len_lv l
    have h1 : lvL (l.map simpV) ≤ lvL l := lvL_map fun q hq => lv_simp (hs q hq)
    rw [simpV, if_neg (by omega), if_pos hk, simpL_map]
    exact c_simpK k noN l simpV _ (by omega) (fun q hq => (c_psimple0 q (hs q hq) (by have := lv_mem hq; omega)).weak fun r k => ⟨_, k.le, rfl⟩) (.inr (.inl ⟨hk, hne, c_pjoined k hk _ (by simpa using hne) (fun q hq => by
      obtain ⟨x, hx, rfl⟩ := List.mem_map.1 hq
      exact simp_ok (hs x hx)) (by omega)⟩))
noncomputable def simA (s : Sel) : Sel := if pB (selP s) then simpV s else .mk 0 noN []
noncomputable def simE (s : Sel) : Int := if pB (selP s) then 0 else 4
theorem sel_lv {s : Sel} (hs : SelL s) (h : selP s) : IsR s ∧ lv s ≤ 64 := ⟨sound_isR hs h.2.2, by have := lv_size s; have := h.2.1; omega⟩
theorem c_Simple0 (s : Sel) (hs : SelL s) : PCall Tryz.prog 13 [ag s.row] (fun r => Leq r (.tup [ag (simA s).row, vint .i64 (simE s)])) := by
  have h1 := c_selection s hs
  unfold simA simE
  by_cases h : selP s
  · obtain ⟨g1, g2⟩ := sel_lv hs h
    have h2 : PCall Tryz.prog 39 [ag s.row] (fun r => r = ag (simpV s).row) := (c_psimple0 s g1 (by omega)).weak fun r k => ⟨_, k.le, rfl⟩
    rw [pB_t h] at *
    rw [if_pos rfl, if_pos rfl]
    generalize simpV s = Z at *
    obtain ⟨k, n, l⟩ := s
    obtain ⟨kz, nz', lz⟩ := Z
    rw [row_mk (k := k)] at *
    refine acall_of tok mixed 10 rfl (fn := Tryz.f13) (c := Tryz.f13.body.getD .skip) (by kernel_rfl) (by kernel_rfl) (by kernel_rfl) rfl 0 rfl ?_
    repeat' (first | ((change vcFun _ _ _ _ _; refine call_frz rfl (by repeat' (first | trivial | refine And.intro ?_ ?_ | (show 0 + _ ≤ List.length _; simp))) ALeL.refl h2 ?_; rintro _ rfl)) | refine o1 ?_ | refine o2 ?_ | refine k1 ?_ | refine k2 ?_ | refine k3 ?_ | refine k6 ?_ | refine k7 ?_ | refine And.intro ?_ ?_ | (intro h; first | exact Bool.noConfusion h | exact nz _ h | exact nl h | (simp at h; done) | (simp at h; first | (exfalso; omega) | skip) | skip) | exact (by kernel_rfl : drawOk _ _ = true) | (change vcFun _ _ _ _ _; refine call_eq rfl (by repeat' (first | trivial | refine And.intro ?_ ?_ | (show 0 + _ ≤ List.length _; simp))) ALeL.refl (h1) rfl ?_) | fail)
    all_goals first
      | (change retOk _ _ _ _; refine ret_pure rfl (by repeat' (first | exact True.intro | refine And.intro ?_ ?_)) ?_; exact ⟨ALe.refl⟩)
  · rw [pB_f h] at *
    rw [if_neg (by decide), if_neg (by decide), row_mk]
    obtain ⟨k, n, l⟩ := s
    rw [row_mk (k := k)] at *
    refine acall_of tok mixed 10 rfl (fn := Tryz.f13) (c := Tryz.f13.body.getD .skip) (by kernel_rfl) (by kernel_rfl) (by kernel_rfl) rfl 0 rfl ?_
    repeat' (first | refine o1 ?_ | refine o2 ?_ | refine k1 ?_ | refine k2 ?_ | refine k3 ?_ | refine k7 ?_ | refine And.intro ?_ ?_ | (intro h; first | exact Bool.noConfusion h | exact nz _ h | exact nl h | (simp at h; done) | (simp at h; first | (exfalso; omega) | skip) | skip) | exact (by kernel_rfl : drawOk _ _ = true) | (change vcFun _ _ _ _ _; refine call_eq rfl (by repeat' (first | trivial | refine And.intro ?_ ?_ | (show 0 + _ ≤ List.length _; simp))) ALeL.refl (h1) rfl ?_) | fail)
    all_goals first
      | (change retOk _ _ _ _; refine ret_pure rfl (by repeat' (first | exact True.intro | refine And.intro ?_ ?_)) ?_; exact ⟨ALe.tup ⟨ALe.agg ⟨ALe.refl, ALe.refl, ALe.pv PLe.nil, trivial⟩, ALe.refl, trivial⟩⟩)
theorem c_Simple (s : Sel) (hs : SelL s) : PCall Tryz.prog 13 [ag s.row] (fun r => r = .tup [ag (simA s).row, vint .i64 (simE s)]) := (c_Simple0 s hs).weak fun r k => ⟨_, k.le, rfl⟩
end Go.Proofs.YtkbaecjnhmbeeaaGreat.Cw
/-
  A slice is appended to a head of a slice.
-/
namespace Go.Proofs.YtkbaecjnhmbeeaaGreat.Cw
open Go Go.Cw Go.Proofs
set_option linter.unusedVariables false
section
variable {P : Program} {T : Tab} {id z ty : Nat} {R Y : List (List PV)}
theorem st_appHD {site idx k m b size bytes : Nat} {agg eagg fz : Bool} {zero ezero : List PV} {etk : TK} {s x : Operand} {t : TypeId} {d : Tmp} {Γ : Slots} {H : Heap} {K : Slots → Heap → List Nat × List Nat → Prop} (hs : ev Γ s = some (.ms id z 0 k)) (hx : ev Γ x = some (.ms idx z 0 m)) (hl : Cw.look T t = some ⟨size, bytes, agg, .slice ty, zero⟩) (he : Cw.look T ty = some ⟨z, b, eagg, etk, ezero⟩) (hz : Nat.blt 0 z = true)
    (hne : id ≠ idx) (ho : H[id]? = some (some ⟨ty, z, false, .p R⟩)) (hi : H[idx]? = some (some ⟨ty, z, fz, .p Y⟩)) (hk : k ≤ R.length) (hm : m = Y.length) (hb : (R.length + Y.length) * b ≤ 140737488355328) (hn : R.length + Y.length ≤ 9223372036854775807)
    (h : forceH (app H [(id, none), (site, some ⟨ty, z, false, .p (R.take k ++ Y)⟩)]) fun H2 => K ((d, .ms site z 0 (k + m)) :: Γ) H2 ([id, id, idx], [id, id, site])) :
    vcStepD P T site (some d) (.call { callee := .builtin .append, args := #[s, x], argTypes := #[t, t] }) Γ H K := by
  have hbq : Nat.beq t t = true := Nat.beq_refl t
  have hzz : Nat.beq z z = true := Nat.beq_refl z
  have hty : Nat.beq ty ty = true := Nat.beq_refl ty
  have hlt := (List.getElem?_eq_some_iff.1 ho).1
  have hi' : ∀ o : Option AObj, (H.set id o)[idx]? = some (some ⟨ty, z, fz, .p Y⟩) := fun o => by rw [List.getElem?_set_ne hne]; exact hi
  have ho' : ∀ o : Option AObj, (H.set id o)[id]? = some o := fun o => List.getElem?_set_self hlt
  have happ : ∀ o u, app H ((id, o) :: (id, none) :: u) = app H ((id, none) :: u) := fun o u => by
    show app ((H.set id o).set id none) u = app (H.set id none) u
    rw [List.set_set]
  rw [forceH_eq] at h
  subst hm
  simp only [vcStepD, vcOp, hbq, hs, hx, vcAppH, ho, Nat.zero_add]
  refine Or.inr ?_
  simp only [vcAppend, hl, he, srcOk, hzz, hz, srcRows, hi', ho', Bool.and_self, Bool.true_and, eqv_eq, putK, forceV, appK, forceH_eq, Bool.not_false, hty, dropR, catRows, List.drop_zero, List.take_length, happ]
  have hkl : (R.take k).length = k := by rw [List.length_take, Nat.min_eq_left hk]
  have e : rowsLen (.p (R.take k ++ Y)) = k + Y.length := by simp only [rowsLen, List.length_append, hkl]
  have hb2 : (k + Y.length) * b ≤ (R.length + Y.length) * b := Nat.mul_le_mul_right _ (by omega)
  refine ⟨by simp only [rowsLen, hkl]; omega, rfl, by rw [e]; omega, by rw [e]; omega, ?_⟩
  rw [e]
  exact h
theorem o_appHD {n site idx k m b size bytes : Nat} {agg eagg fz : Bool} {zero ezero : List PV} {etk : TK} {s x : Operand} {t : TypeId} {d : Tmp} {Γ : Slots} {H : Heap} {KD : List (List Nat × List Nat) → Slots → Heap → Prop} {fs : List (List Nat × List Nat)} {o : Oper} {all l : List Oper} {dc : Known}
    (hop : o.op = .call { callee := .builtin .append, args := #[s, x], argTypes := #[t, t] }) (hg : o.guard = none) (hd : o.dst = some d) (hdn : Nat.blt d n = true) (hs : ev Γ s = some (.ms id z 0 k)) (hx : ev Γ x = some (.ms idx z 0 m)) (hl : Cw.look T t = some ⟨size, bytes, agg, .slice ty, zero⟩) (he : Cw.look T ty = some ⟨z, b, eagg, etk, ezero⟩) (hz : Nat.blt 0 z = true)
    (hne : id ≠ idx) (ho : H[id]? = some (some ⟨ty, z, false, .p R⟩)) (hi : H[idx]? = some (some ⟨ty, z, fz, .p Y⟩)) (hk : k ≤ R.length) (hm : m = Y.length) (hb : (R.length + Y.length) * b ≤ 140737488355328) (hn : R.length + Y.length ≤ 9223372036854775807)
    (h : knOut dc d fun d2 => forceH (app H [(id, none), (site, some ⟨ty, z, false, .p (R.take k ++ Y)⟩)]) fun H2 => xOpsD P T n all l (site + 1) KD (([id, id, idx], [id, id, site]) :: fs) d2 ((d, .ms site z 0 (k + m)) :: Γ) H2) :
    xOpsD P T n all (o :: l) site KD fs dc Γ H := by
  refine opsD_cons ?_
  have e1 : dstOk n o = true := by unfold dstOk; rw [hd]; exact hdn
  have e2 : isAlloc o.op = true := by rw [hop]; rfl
  rw [e1, e2]
  show vcGuard all Γ dc o.guard _ _
  rw [hg]
  simp only [vcGuard, knPut, hd, hop, knRes, simpOp]
  exact knOut_mono dc _ _ (fun d2 hh => st_appHD hs hx hl he hz hne ho hi hk hm hb hn hh) h
end
end Go.Proofs.YtkbaecjnhmbeeaaGreat.Cw
/-
  The reference's join.
-/
namespace Go.Proofs.YtkbaecjnhmbeeaaGreat.Cw
open Go Go.Cw Go.Proofs
set_option linter.unusedVariables false
set_option maxRecDepth 100000
set_option maxHeartbeats 8000000
def outV (k : Int) (F : List Sel) (i : Nat) : List Sel := setV (dropV (nothV k) (F.take i))
theorem out_succ {k : Int} {F : List Sel} {i : Nat} {x : Sel} (h : F[i]? = some x) : outV k F (i + 1) = if ordS x (nothV k) = 0 then outV k F i else insU x (outV k F i) := by
  unfold outV
  rw [take_snoc h, drop_snoc]
  split
  · rfl
  · exact setV_snoc
theorem out_sort {k : Int} {F : List Sel} {i : Nat} : sortS (outV k F i) := setV_sort _
theorem out_lv {k : Int} {F : List Sel} {i : Nat} : lvL (outV k F i) ≤ lvL F := by
  have h1 := lv_setV (dropV (nothV k) (F.take i))
  have h2 := lv_drop (z := nothV k) (F.take i)
  have h3 := lvL_app (F.take i) (F.drop i)
  rw [List.take_append_drop] at h3
  unfold outV; omega
theorem out_mem {k : Int} {F : List Sel} {i : Nat} {x : Sel} (h : x ∈ outV k F i) : x ∈ F := List.mem_of_mem_take (drop_mem.1 (setV_mem.1 h)).1
theorem join_hit {k : Int} {l : List Sel} {i : Nat} {x : Sel} (h : (flatV k l)[i]? = some x) (e : ordS x (evryV k) = 0) : joinV k l = evryV k := by
  unfold joinV
  rw [if_pos]
  exact any_evry.2 (ord_zero _ _ e ▸ List.mem_of_getElem? h)
theorem join_end {k : Int} {l : List Sel} (h : ∀ j, j < (flatV k l).length → ∀ y, (flatV k l)[j]? = some y → ordS y (evryV k) ≠ 0) : joinV k l = packV k (outV k (flatV k l) (flatV k l).length) := by
  unfold joinV outV
  rw [if_neg, List.take_length, set_drop]
  intro hm
  obtain ⟨j, hj⟩ := List.getElem?_of_mem (any_evry.1 hm)
  exact h j (List.getElem?_eq_some_iff.1 hj).1 _ hj (ord_self _)
theorem c_rordA (x : Sel) (hx : SelL x) : PCall Tryz.prog 44 [ag x.row, ag [ei 1, es noN, .sl 3 []]] (fun r => r = vint .i64 (ordS x allQ)) := by
  have h := c_rord x hx allQ selL_allQ
  unfold ROrdOk at h
  rw [allR_eq] at h
  exact h
theorem c_rordN (x : Sel) (hx : SelL x) : PCall Tryz.prog 44 [ag x.row, ag [ei 10, es noN, .sl 3 [[ei 1, es noN, .sl 3 []]]]] (fun r => r = vint .i64 (ordS x noneQ)) := by
  have h := c_rord x hx noneQ selL_noneQ
  unfold ROrdOk at h
  rw [show noneQ.row = [ei 10, es noN, .sl 3 [allR]] by unfold noneQ; rw [row_mk, List.map_cons, allR_eq]; rfl] at h
  exact h
theorem mid_ins {L : List Sel} {x : Sel} {kk : Nat} (hk : kk ≤ L.length) : (L.take kk ++ x :: L.drop kk).map Sel.row = List.take kk (L.map Sel.row) ++ ([x.row] ++ List.take (L.length - kk) (List.drop kk (L.map Sel.row))) := by
  rw [List.map_append, List.map_cons, List.map_take, List.map_drop, List.take_of_length_le (l := List.drop kk (List.map Sel.row L)) (by rw [List.length_drop, List.length_map]; exact Nat.le_refl _)]; rfl
theorem mid_inl {L : List Sel} {x : Sel} {kk : Nat} (hk : kk ≤ L.length) : (L.take kk ++ x :: L.drop kk).length = kk + rowsLen (.p ([x.row] ++ List.take (L.length - kk) (List.drop kk (L.map Sel.row)))) := by
  simp only [rowsLen, List.length_append, List.length_cons, List.length_nil, List.length_take, List.length_drop, List.length_map]; omega
theorem ins_back {x y : Sel} {L : List Sel} (hs : sortS L) (hy : y ∈ L) (h : ordS x y = 0) : insU x L = L := insU_have hs (ord_zero _ _ h ▸ hy)
theorem noneLe2 : PLeL [ei 10, es noN, .sl 3 [[ei 1, es noN, .sl 3 []]]] noneQ.row := by
  rw [show noneQ.row = [ei 10, es noN, .sl 3 [allR]] by unfold noneQ; rw [row_mk, List.map_cons, allR_eq]; rfl]
  exact PLeL.refl
theorem allLe2 : PLeL [ei 1, es noN, .sl 3 []] allQ.row := by rw [allR_eq]; exact PLeL.refl
theorem c_rnone : PCall Tryz.prog 215 [] (fun r => r = ag [ei 10, es noN, .sl 3 [[ei 1, es noN, .sl 3 []]]]) := by
  have h := c_rnothing
  rw [show noneQ.row = [ei 10, es noN, .sl 3 [allR]] by unfold noneQ; rw [row_mk, List.map_cons, allR_eq]; rfl] at h
  exact h
theorem c_rall2 : PCall Tryz.prog 216 [] (fun r => r = ag [ei 1, es noN, .sl 3 []]) := c_rall
theorem c_rjoin8 (l : List Sel) (hne : l ≠ []) (hs : ∀ q ∈ l, IsS q) (hlv : lvL l ≤ 1000) : PCall Tryz.prog 110 [vint .i64 8, .pv (.sl 3 (l.map Sel.row))] (fun r => Leq r (ag (joinV 8 l).row)) := by
  have hl1 := len_lv l
  have hfl : ∀ i, (flatV 8 (l.take i)).length ≤ 1000 := fun i => by
    have h1 := len_lv (flatV 8 (l.take i))
    have h2 := lv_flat (k := 8) (l.take i)
    have h3 : lvL (l.take i) ≤ lvL l := by
      have := lvL_app (l.take i) (l.drop i)
      rw [List.take_append_drop] at this; omega
    omega
  refine acall_of tok mixed 128 rfl (fn := Tryz.f110) (c := Tryz.f110.body.getD .skip) (by kernel_rfl) (by kernel_rfl) (by kernel_rfl) rfl 0 rfl ?_
  repeat' (first | refine o1 ?_ | refine o2 ?_ | refine k1 ?_ | refine k2 ?_ | refine k4 ?_ | refine And.intro ?_ ?_ | exact (by kernel_rfl : drawOk _ _ = true) | fail)
  refine loop_for (fun i : Nat => [(0, vint .i64 8), (1, .pv (.sl 3 (l.map Sel.row))), (4, .ptr 0 3 0 0), (5, slP 1 3 ((flatV 8 (l.take i)).map Sel.row)), (6, vint .i64 i)])
    (fun i => [selB zeroC, obP 52 3 ((flatV 8 (l.take i)).map Sel.row)]) (fun i => i ≤ l.length) (fun i => l.length - i) 0 (Nat.zero_le _) ?_ ?_
  · exact back [0, 1] rfl rfl (by repeat' (first | exact trivial | exact rfl | refine And.intro ?_ ?_)) (by repeat' (first | exact trivial | exact rfl | refine And.intro ?_ ?_))
  intro i hi
  rcases Nat.lt_or_ge i l.length with hlt | hge
  · obtain ⟨⟨kq, nq, lq⟩, hq⟩ := getE hlt
    have hsn := flat_succ (k := 8) hq
    have hf1 := hfl i
    have hf2 := hfl (i + 1)
    by_cases e : kq = 8
    · subst e
      rw [show (if (Sel.mk 8 nq lq).kind = 8 then (Sel.mk 8 nq lq).kids else [Sel.mk 8 nq lq]) = lq from if_pos rfl] at hsn
      rw [hsn, List.length_append] at hf2
      generalize flatV 8 (l.take i) = F at *
      repeat' (first | (refine fv_sl ?_) | (refine fh_ob ?_) | (refine idx_sl (k := i) (at_map hq) rfl ?_) | ((refine o_appL rfl rfl rfl rfl rfl rfl rfl rfl rfl rfl rfl (by rw [List.length_map, selRows_map, List.length_map]; omega) (by rw [List.length_map, selRows_map, List.length_map]; omega) ?_)) | refine o1 ?_ | refine o2 ?_ | refine k1 ?_ | refine k2 ?_ | refine k3 ?_ | refine k4 ?_ | refine k6 ?_ | refine And.intro ?_ ?_ | (intro h; first | exact Bool.noConfusion h | exact nz _ h | exact nl h | (simp at h; done) | (simp at h; first | (exfalso; omega) | skip) | skip) | refine eqv_len_map ?_ | refine eqv_wrap (by omega) (by omega) ?_ | fail)
      refine ⟨i + 1, by omega, by omega, ?_⟩
      rw [hsn, List.map_append, ← selRows_map lq]
      exact back [0, 2] rfl rfl (by repeat' (first | exact trivial | exact rfl | refine kept_ob rfl ?_ | refine And.intro ?_ ?_)) (by repeat' (first | exact trivial | exact rfl | exact ren_get rfl | refine And.intro ?_ ?_))
    · rw [show (if (Sel.mk kq nq lq).kind = 8 then (Sel.mk kq nq lq).kids else [Sel.mk kq nq lq]) = [Sel.mk kq nq lq] from if_neg e] at hsn
      rw [hsn, List.length_append, List.length_singleton] at hf2
      generalize flatV 8 (l.take i) = F at *
      repeat' (first | (refine fv_sl ?_) | (refine fh_ob ?_) | (refine idx_sl (k := i) (at_map hq) rfl ?_) | ((refine o_app rfl rfl rfl rfl rfl rfl rfl rfl rfl rfl rfl (by rw [List.length_map]; omega) (by rw [List.length_map]; omega) ?_)) | refine o1 ?_ | refine o2 ?_ | refine k1 ?_ | refine k2 ?_ | refine k3 ?_ | refine k4 ?_ | refine k6 ?_ | refine And.intro ?_ ?_ | (intro h; first | exact Bool.noConfusion h | exact nz _ h | exact nl h | (simp at h; done) | (simp at h; first | (exfalso; omega) | skip) | skip) | refine eqv_len_map ?_ | refine eqv_wrap (by omega) (by omega) ?_ | fail)
      refine ⟨i + 1, by omega, by omega, ?_⟩
      rw [hsn, map_snoc, sl_app, ob_app]
      exact back [0, 3] rfl rfl (by repeat' (first | exact trivial | exact rfl | refine And.intro ?_ ?_)) (by repeat' (first | exact trivial | exact rfl | refine And.intro ?_ ?_))
  · obtain rfl : i = l.length := by omega
    have hF := flat_ok (Or.inl rfl : (8 : Int) = 8 ∨ (8 : Int) = 9) hs
    have hFn := flat_ne hs hne (Or.inl rfl : (8 : Int) = 8 ∨ (8 : Int) = 9)
    have hFl := hfl l.length
    have hFv := lv_flat (k := 8) l
    have hhit := fun i x => join_hit (k := 8) (l := l) (i := i) (x := x)
    have hend := join_end (k := 8) (l := l)
    clear hfl
    rw [List.take_length] at *
    generalize flatV 8 l = F at *
    have hFL : ∀ q ∈ F, SelL q := fun q hq => selL_lv q (by have := lv_mem hq; omega)
    rw [sl_neS hFn, ob_neS hFn]
    repeat' (first | ((change vcFun _ _ _ _ _; refine call_frz rfl (by repeat' (first | trivial | refine And.intro ?_ ?_ | (show 0 + _ ≤ List.length _; simp))) ALeL.refl c_rnone ?_; rintro _ rfl)) | ((change vcFun _ _ _ _ _; refine call_frz rfl (by repeat' (first | trivial | refine And.intro ?_ ?_ | (show 0 + _ ≤ List.length _; simp))) ALeL.refl c_rall2 ?_; rintro _ rfl)) | refine o1 ?_ | refine o2 ?_ | refine k1 ?_ | refine k2 ?_ | refine k3 ?_ | refine k4 ?_ | refine k8 ?_ | refine And.intro ?_ ?_ | (intro h; first | exact Bool.noConfusion h | exact nz _ h | exact nl h | (simp at h; done) | (simp at h; first | (exfalso; omega) | skip) | skip) | exact (by kernel_rfl : drawOk _ _ = true) | refine eqv_len_map ?_ | fail)
    refine loop_for (fun i : Nat => [(0, vint .i64 8), (4, .ptr 0 3 0 0), (5, .ms 1 3 0 F.length), (7, .ptr 2 3 0 0), (8, .ptr 3 3 0 0), (9, slP 4 3 ((outV 8 F i).map Sel.row)), (10, vint .i64 i)])
      (fun i => [selB zeroC, selO (F.map Sel.row), selB [ei 1, es noN, .sl 3 []], selB [ei 10, es noN, .sl 3 [[ei 1, es noN, .sl 3 []]]], obP 52 3 ((outV 8 F i).map Sel.row)]) (fun i => i ≤ F.length ∧ ∀ j, j < i → ∀ y, F[j]? = some y → ordS y (evryV 8) ≠ 0) (fun i => F.length - i) 0 ⟨Nat.zero_le _, fun j hj => by omega⟩ ?_ ?_
    · exact back [0, 1, 2, 3, 4] rfl rfl (by repeat' (first | exact trivial | exact rfl | refine And.intro ?_ ?_)) (by repeat' (first | exact trivial | exact rfl | refine And.intro ?_ ?_))
    intro i ⟨hi2, hall⟩
    rcases Nat.lt_or_ge i F.length with hlt | hge2
    · obtain ⟨x, hx⟩ := getE hlt
      have hxL := hFL x (List.mem_of_getElem? hx)
      have hE := c_rordN x hxL
      have hZ := c_rordA x hxL
      have hit := hhit i x hx
      have hos := out_succ (k := 8) hx
      have hxr := row_app (J := []) hx
      rw [List.append_nil] at hxr
      have hol : (outV 8 F i).length ≤ 1000 := by
        have h1 := len_lv (outV 8 F i)
        have h2 := out_lv (k := 8) (F := F) (i := i)
        omega
      have hom : ∀ q ∈ outV 8 F i, SelL q := fun q hq => hFL q (out_mem hq)
      have hso := out_sort (k := 8) (F := F) (i := i)
      generalize outV 8 F i = L at *
      by_cases hL : L = []
      · subst hL
        obtain ⟨kx, nx, lx⟩ := x
        repeat' (first | (refine idx_ms i rfl hlt ?_) | (refine ⟨_, hxr, ?_⟩) | refine o1 ?_ | refine o2 ?_ | refine k1 ?_ | refine k2 ?_ | refine k3 ?_ | refine k4 ?_ | refine k6 ?_ | refine k7 ?_ | refine And.intro ?_ ?_ | refine o3 ?_ | refine o4 ?_ | (intro h; first | exact Bool.noConfusion h | exact nz _ h | exact nl h | (simp at h; done) | (simp at h; first | (exfalso; omega) | skip) | skip) | (change retOk _ _ _ _; refine ret_pure rfl trivial ?_) | exact (by kernel_rfl : drawOk _ _ = true) | refine eqv_zero ?_ | (change vcFunD _ _ _ _ _; refine callD_eq rfl (by repeat' (first | trivial | refine And.intro ?_ ?_ | (show 0 + _ ≤ List.length _; simp))) ALeL.refl (hE) rfl ?_) | fail)
        · rw [hit (show ordS (Sel.mk kx nx lx) noneQ = 0 by assumption)]
          exact ⟨ALe.agg (ALe.pvs noneLe2)⟩
        refine loop_at (fun _ : Nat => [(11, vint .i64 0)]) (fun _ => []) (fun _ => True) (fun _ => 0) 0 trivial (by repeat' (first | exact trivial | exact ⟨_, rfl, ALe.refl⟩ | refine And.intro ?_ ?_)) (by repeat' (first | exact trivial | exact rfl | refine And.intro ?_ ?_)) ?_
        intro _ _
        repeat' (first | (refine idx_ms i rfl hlt ?_) | (refine ⟨_, hxr, ?_⟩) | refine o1 ?_ | refine o2 ?_ | refine k1 ?_ | refine k2 ?_ | refine k3 ?_ | refine k6 ?_ | refine k8 ?_ | refine And.intro ?_ ?_ | refine o3 ?_ | refine o4 ?_ | (intro h; first | exact Bool.noConfusion h | exact nz _ h | exact nl h | (simp at h; done) | (simp at h; first | (exfalso; omega) | skip) | skip) | (refine (?_ : srcLen _ = rowsLen _); rfl) | exact Nat.le_of_ble_eq_true rfl | exact (by kernel_rfl : drawOk _ _ = true) | refine eqv_zero ?_ | refine eqv_wrap (by omega) (by omega) ?_ | (refine (?_ : _ = rowsLen _); simp [rowsLen] <;> omega) | refine eqv_to _ (app_first rfl) (eqv_to 1 rfl ?_) | refine Or.inl ?_ | (change vcFunD _ _ _ _ _; refine callD_eq rfl (by repeat' (first | trivial | refine And.intro ?_ ?_ | (show 0 + _ ≤ List.length _; simp))) ALeL.refl (hZ) rfl ?_) | fail)
        all_goals try exact rfl
        · have e := hos.trans (if_neg fun e => absurd (show ordS (Sel.mk kx nx lx) allQ = 0 from e) (by assumption))
          refine ⟨i + 1, ⟨by omega, all_lt_succ hall fun y hy => by rw [hx] at hy; cases hy; exact fun e => absurd (show ordS (Sel.mk kx nx lx) noneQ = 0 from e) (by assumption)⟩, by omega, ?_⟩
          rw [e]
          exact back [0, 1, 2, 3, 7] rfl rfl (by repeat' (first | exact trivial | exact rfl | refine kept_ob rfl ?_ | refine And.intro ?_ ?_)) (by repeat' (first | exact trivial | exact rfl | refine And.intro ?_ ?_))
        · have e := hos.trans (if_pos (show ordS (Sel.mk kx nx lx) allQ = 0 by assumption))
          refine ⟨i + 1, ⟨by omega, all_lt_succ hall fun y hy => by rw [hx] at hy; cases hy; exact fun e => absurd (show ordS (Sel.mk kx nx lx) noneQ = 0 from e) (by assumption)⟩, by omega, ?_⟩
          rw [e]
          exact back [0, 1, 2, 3, 4] rfl rfl (by repeat' (first | exact trivial | exact rfl | refine And.intro ?_ ?_)) (by repeat' (first | exact trivial | exact rfl | refine And.intro ?_ ?_))
      · rw [sl_neS hL, ob_neS hL]
        have hord := fun y hy => c_rord x hxL y (hom y hy)
        unfold ROrdOk at hord
        obtain ⟨kx, nx, lx⟩ := x
        repeat' (first | (refine idx_ms i rfl hlt ?_) | (refine ⟨_, hxr, ?_⟩) | refine o1 ?_ | refine o2 ?_ | refine k1 ?_ | refine k2 ?_ | refine k3 ?_ | refine k4 ?_ | refine k6 ?_ | refine k7 ?_ | refine And.intro ?_ ?_ | refine o3 ?_ | refine o4 ?_ | (intro h; first | exact Bool.noConfusion h | exact nz _ h | exact nl h | (simp at h; done) | (simp at h; first | (exfalso; omega) | skip) | skip) | (change retOk _ _ _ _; refine ret_pure rfl trivial ?_) | exact (by kernel_rfl : drawOk _ _ = true) | refine eqv_zero ?_ | (change vcFunD _ _ _ _ _; refine callD_eq rfl (by repeat' (first | trivial | refine And.intro ?_ ?_ | (show 0 + _ ≤ List.length _; simp))) ALeL.refl (hE) rfl ?_) | fail)
        · rw [hit (show ordS (Sel.mk kx nx lx) noneQ = 0 by assumption)]
          exact ⟨ALe.agg (ALe.pvs noneLe2)⟩
        refine loop_at (fun kk : Nat => [(11, vint .i64 kk)]) (fun _ => []) (fun kk => kk ≤ L.length ∧ ∀ (j : Nat) y, kk ≤ j → L[j]? = some y → ordS (.mk kx nx lx) y < 0) (fun kk => kk) L.length ⟨Nat.le_refl _, fun j y hj hy => by have := (List.getElem?_eq_some_iff.1 hy).1; omega⟩ (by repeat' (first | exact trivial | exact ⟨_, rfl, ALe.refl⟩ | refine And.intro ?_ ?_)) (by repeat' (first | exact trivial | exact rfl | refine And.intro ?_ ?_)) ?_
        intro kk ⟨hkk, hgt⟩
        rcases kk with _ | j
        · repeat' (first | (refine idx_ms i rfl hlt ?_) | (refine ⟨_, hxr, ?_⟩) | (refine ⟨0, 0, rfl, rfl, Nat.zero_le _, by omega, eqv_to 0 rfl (eqv_rfl ?_)⟩) | (refine ⟨0, L.length, rfl, rfl, by omega, Nat.le_refl _, eqv_to (0) (Nat.zero_add _) (eqv_rfl ?_)⟩) | ((refine o_appHD (id := 4) (k := 0) rfl rfl rfl rfl rfl rfl rfl rfl rfl (by decide) rfl rfl (by rw [List.length_map]; omega) rfl (by simp only [List.length_map, List.length_append, List.length_take, List.length_drop, List.length_cons, List.length_nil]; omega) (by simp only [List.length_map, List.length_append, List.length_take, List.length_drop, List.length_cons, List.length_nil]; omega) ?_)) | (refine (eqv_rfl ?_ : eqv (Rows.p _) _)) | (refine (eqv_rfl ?_ : eqv (rowsLen _) _)) | refine o1 ?_ | refine o2 ?_ | refine k1 ?_ | refine k2 ?_ | refine k3 ?_ | refine k6 ?_ | refine k8 ?_ | refine And.intro ?_ ?_ | refine o3 ?_ | refine o4 ?_ | (intro h; first | exact Bool.noConfusion h | exact nz _ h | exact nl h | (simp at h; done) | (simp at h; first | (exfalso; omega) | skip) | skip) | exact (by kernel_rfl : drawOk _ _ = true) | refine eqv_zero ?_ | refine eqv_wrap (by omega) (by omega) ?_ | (refine (?_ : _ ≤ 140737488355328); simp [rowsLen] <;> omega) | (refine (?_ : _ ≤ 9223372036854775807); simp [rowsLen] <;> omega) | (refine (?_ : _ = rowsLen _); simp [rowsLen] <;> omega) | refine Or.inl ?_ | (change vcFunD _ _ _ _ _; refine callD_eq rfl (by repeat' (first | trivial | refine And.intro ?_ ?_ | (show 0 + _ ≤ List.length _; simp))) ALeL.refl (hZ) rfl ?_) | fail)
          · show L.length - (0) = (List.take (L.length - (0)) (List.drop (0) (L.map Sel.row))).length
            rw [List.length_take, List.length_drop, List.length_map]; omega
          · have e := hos.trans (if_neg fun e => absurd (show ordS (Sel.mk kx nx lx) allQ = 0 from e) (by assumption))
            have e2 := insU_at (x := Sel.mk kx nx lx) hso (show 0 ≤ L.length by omega) hgt (fun q y h _ => by omega)
            refine ⟨i + 1, ⟨by omega, all_lt_succ hall fun y hy => by rw [hx] at hy; cases hy; exact fun e => absurd (show ordS (Sel.mk kx nx lx) noneQ = 0 from e) (by assumption)⟩, by omega, ?_⟩
            rw [e, ← e2, sl_neS (by simp), ob_neS (by simp), mid_inl (by omega), mid_ins (by omega)]
            exact back [0, 1, 2, 3, 7] rfl rfl (by repeat' (first | exact trivial | exact rfl | refine And.intro ?_ ?_)) (by repeat' (first | exact trivial | exact rfl | refine And.intro ?_ ?_))
          · have e := hos.trans (if_pos (show ordS (Sel.mk kx nx lx) allQ = 0 by assumption))
            refine ⟨i + 1, ⟨by omega, all_lt_succ hall fun y hy => by rw [hx] at hy; cases hy; exact fun e => absurd (show ordS (Sel.mk kx nx lx) noneQ = 0 from e) (by assumption)⟩, by omega, ?_⟩
            rw [e, sl_neS hL, ob_neS hL]
            exact back [0, 1, 2, 3, 4] rfl rfl (by repeat' (first | exact trivial | exact rfl | refine And.intro ?_ ?_)) (by repeat' (first | exact trivial | exact rfl | refine And.intro ?_ ?_))
        · obtain ⟨y, hy⟩ := getE (show j < L.length by omega)
          have hc := hord y (List.mem_of_getElem? hy)
          have hyr := row_app (J := []) hy
          rw [List.append_nil] at hyr
          generalize hw : ordS (.mk kx nx lx) y = w at *
          obtain ⟨ky, ny, ly⟩ := y
          repeat' (first | (refine idx_ms i rfl hlt ?_) | (refine ⟨_, hxr, ?_⟩) | (refine idx_ms j (by omega) (by omega) ?_) | (refine ⟨_, hyr, ?_⟩) | (refine ⟨0, j + 1, rfl, rfl, Nat.zero_le _, by omega, eqv_to 0 rfl (eqv_rfl ?_)⟩) | (refine ⟨j + 1, L.length, rfl, rfl, by omega, Nat.le_refl _, eqv_to (j + 1) (Nat.zero_add _) (eqv_rfl ?_)⟩) | ((refine o_appHD (id := 4) (k := j + 1) rfl rfl rfl rfl rfl rfl rfl rfl rfl (by decide) rfl rfl (by rw [List.length_map]; omega) rfl (by simp only [List.length_map, List.length_append, List.length_take, List.length_drop, List.length_cons, List.length_nil]; omega) (by simp only [List.length_map, List.length_append, List.length_take, List.length_drop, List.length_cons, List.length_nil]; omega) ?_)) | (refine (eqv_rfl ?_ : eqv (Rows.p _) _)) | (refine (eqv_rfl ?_ : eqv (rowsLen _) _)) | refine o1 ?_ | refine o2 ?_ | refine k1 ?_ | refine k2 ?_ | refine k3 ?_ | refine k4 ?_ | refine k6 ?_ | refine k8 ?_ | refine And.intro ?_ ?_ | refine o3 ?_ | refine o4 ?_ | (intro h; first | exact Bool.noConfusion h | exact nz _ h | exact nl h | (simp at h; done) | (simp at h; first | (exfalso; omega) | skip) | skip) | exact (by kernel_rfl : drawOk _ _ = true) | refine eqv_zero ?_ | refine eqv_wrap (by omega) (by omega) ?_ | (refine (?_ : _ ≤ 140737488355328); simp [rowsLen] <;> omega) | (refine (?_ : _ ≤ 9223372036854775807); simp [rowsLen] <;> omega) | (refine (?_ : _ = rowsLen _); simp [rowsLen] <;> omega) | refine Or.inl ?_ | (change vcFunD _ _ _ _ _; refine callD_eq rfl (by repeat' (first | trivial | refine And.intro ?_ ?_ | (show 0 + _ ≤ List.length _; simp))) ALeL.refl (hZ) rfl ?_) | (change vcFunD _ _ _ _ _; refine callD_eq rfl (by repeat' (first | trivial | refine And.intro ?_ ?_ | (show 0 + _ ≤ List.length _; simp))) ALeL.refl (hc) rfl ?_) | fail)
          · refine ⟨j, ⟨by omega, fun q y' hq hy' => ?_⟩, by omega, back [0, 1, 2, 3, 4] rfl rfl ⟨rfl, rfl, rfl, rfl, rfl, trivial⟩ (And.intro (slot_eq rfl (congrArg (vint .i64) (show ((j + 1 : Nat) : Int) - 1 = (j : Int) by omega))) (by repeat' (first | exact trivial | exact rfl | refine And.intro ?_ ?_)))⟩
            rcases Nat.lt_or_ge j q with h1 | h1
            · exact hgt q y' h1 hy'
            · obtain rfl : q = j := by omega
              rw [hy] at hy'; cases hy'
              rw [hw]; assumption
          · have e := hos.trans (if_neg fun e => absurd (show ordS (Sel.mk kx nx lx) allQ = 0 from e) (by assumption))
            have e3 := ins_back hso (List.mem_of_getElem? hy) (show ordS (Sel.mk kx nx lx) (Sel.mk ky ny ly) = 0 by rw [hw]; assumption)
            refine ⟨i + 1, ⟨by omega, all_lt_succ hall fun y hy => by rw [hx] at hy; cases hy; exact fun e => absurd (show ordS (Sel.mk kx nx lx) noneQ = 0 from e) (by assumption)⟩, by omega, ?_⟩
            rw [e, e3, sl_neS hL, ob_neS hL]
            exact back [0, 1, 2, 3, 4] rfl rfl (by repeat' (first | exact trivial | exact rfl | refine And.intro ?_ ?_)) (by repeat' (first | exact trivial | exact rfl | refine And.intro ?_ ?_))
          · show L.length - (j + 1) = (List.take (L.length - (j + 1)) (List.drop (j + 1) (L.map Sel.row))).length
            rw [List.length_take, List.length_drop, List.length_map]; omega
          · have e := hos.trans (if_neg fun e => absurd (show ordS (Sel.mk kx nx lx) allQ = 0 from e) (by assumption))
            have e2 := insU_at (x := Sel.mk kx nx lx) hso (show j + 1 ≤ L.length by omega) hgt (fun q y' h hy' => by
            obtain rfl : q = j := by omega
            rw [hy] at hy'; cases hy'
            rw [hw]; omega)
            refine ⟨i + 1, ⟨by omega, all_lt_succ hall fun y hy => by rw [hx] at hy; cases hy; exact fun e => absurd (show ordS (Sel.mk kx nx lx) noneQ = 0 from e) (by assumption)⟩, by omega, ?_⟩
            rw [e, ← e2, sl_neS (by simp), ob_neS (by simp), mid_inl (by omega), mid_ins (by omega)]
            exact back [0, 1, 2, 3, 7] rfl rfl (by repeat' (first | exact trivial | exact rfl | refine And.intro ?_ ?_)) (by repeat' (first | exact trivial | exact rfl | refine And.intro ?_ ?_))
          · have e := hos.trans (if_pos (show ordS (Sel.mk kx nx lx) allQ = 0 by assumption))
            refine ⟨i + 1, ⟨by omega, all_lt_succ hall fun y hy => by rw [hx] at hy; cases hy; exact fun e => absurd (show ordS (Sel.mk kx nx lx) noneQ = 0 from e) (by assumption)⟩, by omega, ?_⟩
            rw [e, sl_neS hL, ob_neS hL]
            exact back [0, 1, 2, 3, 4] rfl rfl (by repeat' (first | exact trivial | exact rfl | refine And.intro ?_ ?_)) (by repeat' (first | exact trivial | exact rfl | refine And.intro ?_ ?_))
    · obtain rfl : i = F.length := by omega
      rw [hend fun j hj => hall j hj]
      generalize outV 8 F F.length = D at *
      rcases D with _ | ⟨⟨kx, nx, lx⟩, _ | ⟨⟨ky, ny, ly⟩, D⟩⟩
      · repeat' (first | refine o1 ?_ | refine o2 ?_ | refine k1 ?_ | refine k2 ?_ | refine k3 ?_ | refine k4 ?_ | refine k7 ?_ | refine k8 ?_ | refine And.intro ?_ ?_ | (intro h; first | exact Bool.noConfusion h | exact nz _ h | exact nl h | (simp at h; done) | (simp at h; first | (exfalso; omega) | skip) | skip) | (change retOk _ _ _ _; refine ret_pure rfl trivial ?_) | fail)
        all_goals first
          | exact ⟨ALe.agg (ALe.pvs allLe2)⟩
      · repeat' (first | (refine ⟨_, rfl, (Nat.le_of_ble_eq_true rfl), ?_⟩) | (refine ⟨_, rfl, ?_⟩) | refine o1 ?_ | refine o2 ?_ | refine k1 ?_ | refine k2 ?_ | refine k3 ?_ | refine k4 ?_ | refine k7 ?_ | refine k8 ?_ | refine And.intro ?_ ?_ | (intro h; first | exact Bool.noConfusion h | exact nz _ h | exact nl h | (simp at h; done) | (simp at h; first | (exfalso; omega) | skip) | skip) | (change retOk _ _ _ _; refine ret_pure rfl trivial ?_) | fail)
        rw [show packV 8 [Sel.mk kx nx lx] = Sel.mk kx nx lx from rfl]
        all_goals first
          | exact ⟨ALe.refl⟩
      · rw [sl_neS (by simp), ob_neS (by simp)]
        repeat' (first | refine o1 ?_ | refine o2 ?_ | refine k1 ?_ | refine k2 ?_ | refine k3 ?_ | refine k4 ?_ | refine k6 ?_ | refine k7 ?_ | refine k8 ?_ | refine And.intro ?_ ?_ | (intro h; first | exact Bool.noConfusion h | exact nz _ h | exact nl h | (simp at h; done) | (simp at h; first | (exfalso; omega) | skip) | skip) | fail)
        all_goals try (exfalso; simp at *; omega)
        rw [show packV 8 (Sel.mk kx nx lx :: Sel.mk ky ny ly :: D) = Sel.mk 8 noN (Sel.mk kx nx lx :: Sel.mk ky ny ly :: D) from rfl, row_mk]
        generalize Sel.mk kx nx lx :: Sel.mk ky ny ly :: D = D2 at *
        change retOk _ _ _ _
        refine ret_pure rfl (by repeat' (first | exact True.intro | refine And.intro ?_ ?_ | exact (show 0 + D2.length ≤ (D2.map Sel.row).length by rw [List.length_map]; omega))) ?_
        exact ⟨ALe.agg ⟨ALe.refl, ALe.refl, ALe.pv (whole_le (Nat.le_refl _)), trivial⟩⟩
theorem c_rjoin9 (l : List Sel) (hne : l ≠ []) (hs : ∀ q ∈ l, IsS q) (hlv : lvL l ≤ 1000) : PCall Tryz.prog 110 [vint .i64 9, .pv (.sl 3 (l.map Sel.row))] (fun r => Leq r (ag (joinV 9 l).row)) := by
  have hl1 := len_lv l
  have hfl : ∀ i, (flatV 9 (l.take i)).length ≤ 1000 := fun i => by
    have h1 := len_lv (flatV 9 (l.take i))
    have h2 := lv_flat (k := 9) (l.take i)
    have h3 : lvL (l.take i) ≤ lvL l := by
      have := lvL_app (l.take i) (l.drop i)
      rw [List.take_append_drop] at this; omega
    omega
  refine acall_of tok mixed 128 rfl (fn := Tryz.f110) (c := Tryz.f110.body.getD .skip) (by kernel_rfl) (by kernel_rfl) (by kernel_rfl) rfl 0 rfl ?_
  repeat' (first | refine o1 ?_ | refine o2 ?_ | refine k1 ?_ | refine k2 ?_ | refine k4 ?_ | refine And.intro ?_ ?_ | exact (by kernel_rfl : drawOk _ _ = true) | fail)
  refine loop_for (fun i : Nat => [(0, vint .i64 9), (1, .pv (.sl 3 (l.map Sel.row))), (4, .ptr 0 3 0 0), (5, slP 1 3 ((flatV 9 (l.take i)).map Sel.row)), (6, vint .i64 i)])
    (fun i => [selB zeroC, obP 52 3 ((flatV 9 (l.take i)).map Sel.row)]) (fun i => i ≤ l.length) (fun i => l.length - i) 0 (Nat.zero_le _) ?_ ?_
  · exact back [0, 1] rfl rfl (by repeat' (first | exact trivial | exact rfl | refine And.intro ?_ ?_)) (by repeat' (first | exact trivial | exact rfl | refine And.intro ?_ ?_))
  intro i hi
  rcases Nat.lt_or_ge i l.length with hlt | hge
  · obtain ⟨⟨kq, nq, lq⟩, hq⟩ := getE hlt
    have hsn := flat_succ (k := 9) hq
    have hf1 := hfl i
    have hf2 := hfl (i + 1)
    by_cases e : kq = 9
    · subst e
      rw [show (if (Sel.mk 9 nq lq).kind = 9 then (Sel.mk 9 nq lq).kids else [Sel.mk 9 nq lq]) = lq from if_pos rfl] at hsn
      rw [hsn, List.length_append] at hf2
      generalize flatV 9 (l.take i) = F at *
      repeat' (first | (refine fv_sl ?_) | (refine fh_ob ?_) | (refine idx_sl (k := i) (at_map hq) rfl ?_) | ((refine o_appL rfl rfl rfl rfl rfl rfl rfl rfl rfl rfl rfl (by rw [List.length_map, selRows_map, List.length_map]; omega) (by rw [List.length_map, selRows_map, List.length_map]; omega) ?_)) | refine o1 ?_ | refine o2 ?_ | refine k1 ?_ | refine k2 ?_ | refine k3 ?_ | refine k4 ?_ | refine k6 ?_ | refine And.intro ?_ ?_ | (intro h; first | exact Bool.noConfusion h | exact nz _ h | exact nl h | (simp at h; done) | (simp at h; first | (exfalso; omega) | skip) | skip) | refine eqv_len_map ?_ | refine eqv_wrap (by omega) (by omega) ?_ | fail)
      refine ⟨i + 1, by omega, by omega, ?_⟩
      rw [hsn, List.map_append, ← selRows_map lq]
      exact back [0, 2] rfl rfl (by repeat' (first | exact trivial | exact rfl | refine kept_ob rfl ?_ | refine And.intro ?_ ?_)) (by repeat' (first | exact trivial | exact rfl | exact ren_get rfl | refine And.intro ?_ ?_))
    · rw [show (if (Sel.mk kq nq lq).kind = 9 then (Sel.mk kq nq lq).kids else [Sel.mk kq nq lq]) = [Sel.mk kq nq lq] from if_neg e] at hsn
      rw [hsn, List.length_append, List.length_singleton] at hf2
      generalize flatV 9 (l.take i) = F at *
      repeat' (first | (refine fv_sl ?_) | (refine fh_ob ?_) | (refine idx_sl (k := i) (at_map hq) rfl ?_) | ((refine o_app rfl rfl rfl rfl rfl rfl rfl rfl rfl rfl rfl (by rw [List.length_map]; omega) (by rw [List.length_map]; omega) ?_)) | refine o1 ?_ | refine o2 ?_ | refine k1 ?_ | refine k2 ?_ | refine k3 ?_ | refine k4 ?_ | refine k6 ?_ | refine And.intro ?_ ?_ | (intro h; first | exact Bool.noConfusion h | exact nz _ h | exact nl h | (simp at h; done) | (simp at h; first | (exfalso; omega) | skip) | skip) | refine eqv_len_map ?_ | refine eqv_wrap (by omega) (by omega) ?_ | fail)
      refine ⟨i + 1, by omega, by omega, ?_⟩
      rw [hsn, map_snoc, sl_app, ob_app]
      exact back [0, 3] rfl rfl (by repeat' (first | exact trivial | exact rfl | refine And.intro ?_ ?_)) (by repeat' (first | exact trivial | exact rfl | refine And.intro ?_ ?_))
  · obtain rfl : i = l.length := by omega
    have hF := flat_ok (Or.inr rfl : (9 : Int) = 8 ∨ (9 : Int) = 9) hs
    have hFn := flat_ne hs hne (Or.inr rfl : (9 : Int) = 8 ∨ (9 : Int) = 9)
    have hFl := hfl l.length
    have hFv := lv_flat (k := 9) l
    have hhit := fun i x => join_hit (k := 9) (l := l) (i := i) (x := x)
    have hend := join_end (k := 9) (l := l)
    clear hfl
    rw [List.take_length] at *
    generalize flatV 9 l = F at *
    have hFL : ∀ q ∈ F, SelL q := fun q hq => selL_lv q (by have := lv_mem hq; omega)
    rw [sl_neS hFn, ob_neS hFn]
    repeat' (first | ((change vcFun _ _ _ _ _; refine call_frz rfl (by repeat' (first | trivial | refine And.intro ?_ ?_ | (show 0 + _ ≤ List.length _; simp))) ALeL.refl c_rnone ?_; rintro _ rfl)) | ((change vcFun _ _ _ _ _; refine call_frz rfl (by repeat' (first | trivial | refine And.intro ?_ ?_ | (show 0 + _ ≤ List.length _; simp))) ALeL.refl c_rall2 ?_; rintro _ rfl)) | refine o1 ?_ | refine o2 ?_ | refine k1 ?_ | refine k2 ?_ | refine k3 ?_ | refine k4 ?_ | refine k6 ?_ | refine k8 ?_ | refine And.intro ?_ ?_ | (intro h; first | exact Bool.noConfusion h | exact nz _ h | exact nl h | (simp at h; done) | (simp at h; first | (exfalso; omega) | skip) | skip) | exact (by kernel_rfl : drawOk _ _ = true) | refine eqv_len_map ?_ | fail)
    refine loop_for (fun i : Nat => [(0, vint .i64 9), (4, .ptr 0 3 0 0), (5, .ms 1 3 0 F.length), (7, .ptr 2 3 0 0), (8, .ptr 3 3 0 0), (9, slP 4 3 ((outV 9 F i).map Sel.row)), (10, vint .i64 i)])
      (fun i => [selB zeroC, selO (F.map Sel.row), selB [ei 10, es noN, .sl 3 [[ei 1, es noN, .sl 3 []]]], selB [ei 1, es noN, .sl 3 []], obP 52 3 ((outV 9 F i).map Sel.row)]) (fun i => i ≤ F.length ∧ ∀ j, j < i → ∀ y, F[j]? = some y → ordS y (evryV 9) ≠ 0) (fun i => F.length - i) 0 ⟨Nat.zero_le _, fun j hj => by omega⟩ ?_ ?_
    · exact back [0, 1, 2, 3, 4] rfl rfl (by repeat' (first | exact trivial | exact rfl | refine And.intro ?_ ?_)) (by repeat' (first | exact trivial | exact rfl | refine And.intro ?_ ?_))
    intro i ⟨hi2, hall⟩
    rcases Nat.lt_or_ge i F.length with hlt | hge2
    · obtain ⟨x, hx⟩ := getE hlt
      have hxL := hFL x (List.mem_of_getElem? hx)
      have hE := c_rordA x hxL
      have hZ := c_rordN x hxL
      have hit := hhit i x hx
      have hos := out_succ (k := 9) hx
      have hxr := row_app (J := []) hx
      rw [List.append_nil] at hxr
      have hol : (outV 9 F i).length ≤ 1000 := by
        have h1 := len_lv (outV 9 F i)
        have h2 := out_lv (k := 9) (F := F) (i := i)
        omega
      have hom : ∀ q ∈ outV 9 F i, SelL q := fun q hq => hFL q (out_mem hq)
      have hso := out_sort (k := 9) (F := F) (i := i)
      generalize outV 9 F i = L at *
      by_cases hL : L = []
      · subst hL
        obtain ⟨kx, nx, lx⟩ := x
        repeat' (first | (refine idx_ms i rfl hlt ?_) | (refine ⟨_, hxr, ?_⟩) | refine o1 ?_ | refine o2 ?_ | refine k1 ?_ | refine k2 ?_ | refine k3 ?_ | refine k4 ?_ | refine k6 ?_ | refine k7 ?_ | refine And.intro ?_ ?_ | refine o3 ?_ | refine o4 ?_ | (intro h; first | exact Bool.noConfusion h | exact nz _ h | exact nl h | (simp at h; done) | (simp at h; first | (exfalso; omega) | skip) | skip) | (change retOk _ _ _ _; refine ret_pure rfl trivial ?_) | exact (by kernel_rfl : drawOk _ _ = true) | refine eqv_zero ?_ | (change vcFunD _ _ _ _ _; refine callD_eq rfl (by repeat' (first | trivial | refine And.intro ?_ ?_ | (show 0 + _ ≤ List.length _; simp))) ALeL.refl (hE) rfl ?_) | fail)
        · rw [hit (show ordS (Sel.mk kx nx lx) allQ = 0 by assumption)]
          exact ⟨ALe.agg (ALe.pvs allLe2)⟩
        refine loop_at (fun _ : Nat => [(11, vint .i64 0)]) (fun _ => []) (fun _ => True) (fun _ => 0) 0 trivial (by repeat' (first | exact trivial | exact ⟨_, rfl, ALe.refl⟩ | refine And.intro ?_ ?_)) (by repeat' (first | exact trivial | exact rfl | refine And.intro ?_ ?_)) ?_
        intro _ _
        repeat' (first | (refine idx_ms i rfl hlt ?_) | (refine ⟨_, hxr, ?_⟩) | refine o1 ?_ | refine o2 ?_ | refine k1 ?_ | refine k2 ?_ | refine k3 ?_ | refine k6 ?_ | refine k8 ?_ | refine And.intro ?_ ?_ | refine o3 ?_ | refine o4 ?_ | (intro h; first | exact Bool.noConfusion h | exact nz _ h | exact nl h | (simp at h; done) | (simp at h; first | (exfalso; omega) | skip) | skip) | (refine (?_ : srcLen _ = rowsLen _); rfl) | exact Nat.le_of_ble_eq_true rfl | exact (by kernel_rfl : drawOk _ _ = true) | refine eqv_zero ?_ | refine eqv_wrap (by omega) (by omega) ?_ | (refine (?_ : _ = rowsLen _); simp [rowsLen] <;> omega) | refine eqv_to _ (app_first rfl) (eqv_to 1 rfl ?_) | refine Or.inl ?_ | (change vcFunD _ _ _ _ _; refine callD_eq rfl (by repeat' (first | trivial | refine And.intro ?_ ?_ | (show 0 + _ ≤ List.length _; simp))) ALeL.refl (hZ) rfl ?_) | fail)
        all_goals try exact rfl
        · have e := hos.trans (if_neg fun e => absurd (show ordS (Sel.mk kx nx lx) noneQ = 0 from e) (by assumption))
          refine ⟨i + 1, ⟨by omega, all_lt_succ hall fun y hy => by rw [hx] at hy; cases hy; exact fun e => absurd (show ordS (Sel.mk kx nx lx) allQ = 0 from e) (by assumption)⟩, by omega, ?_⟩
          rw [e]
          exact back [0, 1, 2, 3, 7] rfl rfl (by repeat' (first | exact trivial | exact rfl | refine kept_ob rfl ?_ | refine And.intro ?_ ?_)) (by repeat' (first | exact trivial | exact rfl | refine And.intro ?_ ?_))
        · have e := hos.trans (if_pos (show ordS (Sel.mk kx nx lx) noneQ = 0 by assumption))
          refine ⟨i + 1, ⟨by omega, all_lt_succ hall fun y hy => by rw [hx] at hy; cases hy; exact fun e => absurd (show ordS (Sel.mk kx nx lx) allQ = 0 from e) (by assumption)⟩, by omega, ?_⟩
          rw [e]
          exact back [0, 1, 2, 3, 4] rfl rfl (by repeat' (first | exact trivial | exact rfl | refine And.intro ?_ ?_)) (by repeat' (first | exact trivial | exact rfl | refine And.intro ?_ ?_))
      · rw [sl_neS hL, ob_neS hL]
        have hord := fun y hy => c_rord x hxL y (hom y hy)
        unfold ROrdOk at hord
        obtain ⟨kx, nx, lx⟩ := x
        repeat' (first | (refine idx_ms i rfl hlt ?_) | (refine ⟨_, hxr, ?_⟩) | refine o1 ?_ | refine o2 ?_ | refine k1 ?_ | refine k2 ?_ | refine k3 ?_ | refine k4 ?_ | refine k6 ?_ | refine k7 ?_ | refine And.intro ?_ ?_ | refine o3 ?_ | refine o4 ?_ | (intro h; first | exact Bool.noConfusion h | exact nz _ h | exact nl h | (simp at h; done) | (simp at h; first | (exfalso; omega) | skip) | skip) | (change retOk _ _ _ _; refine ret_pure rfl trivial ?_) | exact (by kernel_rfl : drawOk _ _ = true) | refine eqv_zero ?_ | (change vcFunD _ _ _ _ _; refine callD_eq rfl (by repeat' (first | trivial | refine And.intro ?_ ?_ | (show 0 + _ ≤ List.length _; simp))) ALeL.refl (hE) rfl ?_) | fail)
        · rw [hit (show ordS (Sel.mk kx nx lx) allQ = 0 by assumption)]
          exact ⟨ALe.agg (ALe.pvs allLe2)⟩
        refine loop_at (fun kk : Nat => [(11, vint .i64 kk)]) (fun _ => []) (fun kk => kk ≤ L.length ∧ ∀ (j : Nat) y, kk ≤ j → L[j]? = some y → ordS (.mk kx nx lx) y < 0) (fun kk => kk) L.length ⟨Nat.le_refl _, fun j y hj hy => by have := (List.getElem?_eq_some_iff.1 hy).1; omega⟩ (by repeat' (first | exact trivial | exact ⟨_, rfl, ALe.refl⟩ | refine And.intro ?_ ?_)) (by repeat' (first | exact trivial | exact rfl | refine And.intro ?_ ?_)) ?_
        intro kk ⟨hkk, hgt⟩
        rcases kk with _ | j
        · repeat' (first | (refine idx_ms i rfl hlt ?_) | (refine ⟨_, hxr, ?_⟩) | (refine ⟨0, 0, rfl, rfl, Nat.zero_le _, by omega, eqv_to 0 rfl (eqv_rfl ?_)⟩) | (refine ⟨0, L.length, rfl, rfl, by omega, Nat.le_refl _, eqv_to (0) (Nat.zero_add _) (eqv_rfl ?_)⟩) | ((refine o_appHD (id := 4) (k := 0) rfl rfl rfl rfl rfl rfl rfl rfl rfl (by decide) rfl rfl (by rw [List.length_map]; omega) rfl (by simp only [List.length_map, List.length_append, List.length_take, List.length_drop, List.length_cons, List.length_nil]; omega) (by simp only [List.length_map, List.length_append, List.length_take, List.length_drop, List.length_cons, List.length_nil]; omega) ?_)) | (refine (eqv_rfl ?_ : eqv (Rows.p _) _)) | (refine (eqv_rfl ?_ : eqv (rowsLen _) _)) | refine o1 ?_ | refine o2 ?_ | refine k1 ?_ | refine k2 ?_ | refine k3 ?_ | refine k6 ?_ | refine k8 ?_ | refine And.intro ?_ ?_ | refine o3 ?_ | refine o4 ?_ | (intro h; first | exact Bool.noConfusion h | exact nz _ h | exact nl h | (simp at h; done) | (simp at h; first | (exfalso; omega) | skip) | skip) | exact (by kernel_rfl : drawOk _ _ = true) | refine eqv_zero ?_ | refine eqv_wrap (by omega) (by omega) ?_ | (refine (?_ : _ ≤ 140737488355328); simp [rowsLen] <;> omega) | (refine (?_ : _ ≤ 9223372036854775807); simp [rowsLen] <;> omega) | (refine (?_ : _ = rowsLen _); simp [rowsLen] <;> omega) | refine Or.inl ?_ | (change vcFunD _ _ _ _ _; refine callD_eq rfl (by repeat' (first | trivial | refine And.intro ?_ ?_ | (show 0 + _ ≤ List.length _; simp))) ALeL.refl (hZ) rfl ?_) | fail)
          · show L.length - (0) = (List.take (L.length - (0)) (List.drop (0) (L.map Sel.row))).length
            rw [List.length_take, List.length_drop, List.length_map]; omega
          · have e := hos.trans (if_neg fun e => absurd (show ordS (Sel.mk kx nx lx) noneQ = 0 from e) (by assumption))
            have e2 := insU_at (x := Sel.mk kx nx lx) hso (show 0 ≤ L.length by omega) hgt (fun q y h _ => by omega)
            refine ⟨i + 1, ⟨by omega, all_lt_succ hall fun y hy => by rw [hx] at hy; cases hy; exact fun e => absurd (show ordS (Sel.mk kx nx lx) allQ = 0 from e) (by assumption)⟩, by omega, ?_⟩
            rw [e, ← e2, sl_neS (by simp), ob_neS (by simp), mid_inl (by omega), mid_ins (by omega)]
            exact back [0, 1, 2, 3, 7] rfl rfl (by repeat' (first | exact trivial | exact rfl | refine And.intro ?_ ?_)) (by repeat' (first | exact trivial | exact rfl | refine And.intro ?_ ?_))
          · have e := hos.trans (if_pos (show ordS (Sel.mk kx nx lx) noneQ = 0 by assumption))
            refine ⟨i + 1, ⟨by omega, all_lt_succ hall fun y hy => by rw [hx] at hy; cases hy; exact fun e => absurd (show ordS (Sel.mk kx nx lx) allQ = 0 from e) (by assumption)⟩, by omega, ?_⟩
            rw [e, sl_neS hL, ob_neS hL]
            exact back [0, 1, 2, 3, 4] rfl rfl (by repeat' (first | exact trivial | exact rfl | refine And.intro ?_ ?_)) (by repeat' (first | exact trivial | exact rfl | refine And.intro ?_ ?_))
        · obtain ⟨y, hy⟩ := getE (show j < L.length by omega)
          have hc := hord y (List.mem_of_getElem? hy)
          have hyr := row_app (J := []) hy
          rw [List.append_nil] at hyr
          generalize hw : ordS (.mk kx nx lx) y = w at *
          obtain ⟨ky, ny, ly⟩ := y
          repeat' (first | (refine idx_ms i rfl hlt ?_) | (refine ⟨_, hxr, ?_⟩) | (refine idx_ms j (by omega) (by omega) ?_) | (refine ⟨_, hyr, ?_⟩) | (refine ⟨0, j + 1, rfl, rfl, Nat.zero_le _, by omega, eqv_to 0 rfl (eqv_rfl ?_)⟩) | (refine ⟨j + 1, L.length, rfl, rfl, by omega, Nat.le_refl _, eqv_to (j + 1) (Nat.zero_add _) (eqv_rfl ?_)⟩) | ((refine o_appHD (id := 4) (k := j + 1) rfl rfl rfl rfl rfl rfl rfl rfl rfl (by decide) rfl rfl (by rw [List.length_map]; omega) rfl (by simp only [List.length_map, List.length_append, List.length_take, List.length_drop, List.length_cons, List.length_nil]; omega) (by simp only [List.length_map, List.length_append, List.length_take, List.length_drop, List.length_cons, List.length_nil]; omega) ?_)) | (refine (eqv_rfl ?_ : eqv (Rows.p _) _)) | (refine (eqv_rfl ?_ : eqv (rowsLen _) _)) | refine o1 ?_ | refine o2 ?_ | refine k1 ?_ | refine k2 ?_ | refine k3 ?_ | refine k4 ?_ | refine k6 ?_ | refine k8 ?_ | refine And.intro ?_ ?_ | refine o3 ?_ | refine o4 ?_ | (intro h; first | exact Bool.noConfusion h | exact nz _ h | exact nl h | (simp at h; done) | (simp at h; first | (exfalso; omega) | skip) | skip) | exact (by kernel_rfl : drawOk _ _ = true) | refine eqv_zero ?_ | refine eqv_wrap (by omega) (by omega) ?_ | (refine (?_ : _ ≤ 140737488355328); simp [rowsLen] <;> omega) | (refine (?_ : _ ≤ 9223372036854775807); simp [rowsLen] <;> omega) | (refine (?_ : _ = rowsLen _); simp [rowsLen] <;> omega) | refine Or.inl ?_ | (change vcFunD _ _ _ _ _; refine callD_eq rfl (by repeat' (first | trivial | refine And.intro ?_ ?_ | (show 0 + _ ≤ List.length _; simp))) ALeL.refl (hZ) rfl ?_) | (change vcFunD _ _ _ _ _; refine callD_eq rfl (by repeat' (first | trivial | refine And.intro ?_ ?_ | (show 0 + _ ≤ List.length _; simp))) ALeL.refl (hc) rfl ?_) | fail)
          · refine ⟨j, ⟨by omega, fun q y' hq hy' => ?_⟩, by omega, back [0, 1, 2, 3, 4] rfl rfl ⟨rfl, rfl, rfl, rfl, rfl, trivial⟩ (And.intro (slot_eq rfl (congrArg (vint .i64) (show ((j + 1 : Nat) : Int) - 1 = (j : Int) by omega))) (by repeat' (first | exact trivial | exact rfl | refine And.intro ?_ ?_)))⟩
            rcases Nat.lt_or_ge j q with h1 | h1
            · exact hgt q y' h1 hy'
            · obtain rfl : q = j := by omega
              rw [hy] at hy'; cases hy'
              rw [hw]; assumption
          · have e := hos.trans (if_neg fun e => absurd (show ordS (Sel.mk kx nx lx) noneQ = 0 from e) (by assumption))
            have e3 := ins_back hso (List.mem_of_getElem? hy) (show ordS (Sel.mk kx nx lx) (Sel.mk ky ny ly) = 0 by rw [hw]; assumption)
            refine ⟨i + 1, ⟨by omega, all_lt_succ hall fun y hy => by rw [hx] at hy; cases hy; exact fun e => absurd (show ordS (Sel.mk kx nx lx) allQ = 0 from e) (by assumption)⟩, by omega, ?_⟩
            rw [e, e3, sl_neS hL, ob_neS hL]
            exact back [0, 1, 2, 3, 4] rfl rfl (by repeat' (first | exact trivial | exact rfl | refine And.intro ?_ ?_)) (by repeat' (first | exact trivial | exact rfl | refine And.intro ?_ ?_))
          · show L.length - (j + 1) = (List.take (L.length - (j + 1)) (List.drop (j + 1) (L.map Sel.row))).length
            rw [List.length_take, List.length_drop, List.length_map]; omega
          · have e := hos.trans (if_neg fun e => absurd (show ordS (Sel.mk kx nx lx) noneQ = 0 from e) (by assumption))
            have e2 := insU_at (x := Sel.mk kx nx lx) hso (show j + 1 ≤ L.length by omega) hgt (fun q y' h hy' => by
            obtain rfl : q = j := by omega
            rw [hy] at hy'; cases hy'
            rw [hw]; omega)
            refine ⟨i + 1, ⟨by omega, all_lt_succ hall fun y hy => by rw [hx] at hy; cases hy; exact fun e => absurd (show ordS (Sel.mk kx nx lx) allQ = 0 from e) (by assumption)⟩, by omega, ?_⟩
            rw [e, ← e2, sl_neS (by simp), ob_neS (by simp), mid_inl (by omega), mid_ins (by omega)]
            exact back [0, 1, 2, 3, 7] rfl rfl (by repeat' (first | exact trivial | exact rfl | refine And.intro ?_ ?_)) (by repeat' (first | exact trivial | exact rfl | refine And.intro ?_ ?_))
          · have e := hos.trans (if_pos (show ordS (Sel.mk kx nx lx) noneQ = 0 by assumption))
            refine ⟨i + 1, ⟨by omega, all_lt_succ hall fun y hy => by rw [hx] at hy; cases hy; exact fun e => absurd (show ordS (Sel.mk kx nx lx) allQ = 0 from e) (by assumption)⟩, by omega, ?_⟩
            rw [e, sl_neS hL, ob_neS hL]
            exact back [0, 1, 2, 3, 4] rfl rfl (by repeat' (first | exact trivial | exact rfl | refine And.intro ?_ ?_)) (by repeat' (first | exact trivial | exact rfl | refine And.intro ?_ ?_))
    · obtain rfl : i = F.length := by omega
      rw [hend fun j hj => hall j hj]
      generalize outV 9 F F.length = D at *
      rcases D with _ | ⟨⟨kx, nx, lx⟩, _ | ⟨⟨ky, ny, ly⟩, D⟩⟩
      · repeat' (first | refine o1 ?_ | refine o2 ?_ | refine k1 ?_ | refine k2 ?_ | refine k3 ?_ | refine k4 ?_ | refine k7 ?_ | refine k8 ?_ | refine And.intro ?_ ?_ | (intro h; first | exact Bool.noConfusion h | exact nz _ h | exact nl h | (simp at h; done) | (simp at h; first | (exfalso; omega) | skip) | skip) | (change retOk _ _ _ _; refine ret_pure rfl trivial ?_) | fail)
        all_goals first
          | exact ⟨ALe.agg (ALe.pvs noneLe2)⟩
      · repeat' (first | (refine ⟨_, rfl, (Nat.le_of_ble_eq_true rfl), ?_⟩) | (refine ⟨_, rfl, ?_⟩) | refine o1 ?_ | refine o2 ?_ | refine k1 ?_ | refine k2 ?_ | refine k3 ?_ | refine k4 ?_ | refine k7 ?_ | refine k8 ?_ | refine And.intro ?_ ?_ | (intro h; first | exact Bool.noConfusion h | exact nz _ h | exact nl h | (simp at h; done) | (simp at h; first | (exfalso; omega) | skip) | skip) | (change retOk _ _ _ _; refine ret_pure rfl trivial ?_) | fail)
        rw [show packV 9 [Sel.mk kx nx lx] = Sel.mk kx nx lx from rfl]
        all_goals first
          | exact ⟨ALe.refl⟩
      · rw [sl_neS (by simp), ob_neS (by simp)]
        repeat' (first | refine o1 ?_ | refine o2 ?_ | refine k1 ?_ | refine k2 ?_ | refine k3 ?_ | refine k4 ?_ | refine k6 ?_ | refine k7 ?_ | refine k8 ?_ | refine And.intro ?_ ?_ | (intro h; first | exact Bool.noConfusion h | exact nz _ h | exact nl h | (simp at h; done) | (simp at h; first | (exfalso; omega) | skip) | skip) | fail)
        all_goals try (exfalso; simp at *; omega)
        rw [show packV 9 (Sel.mk kx nx lx :: Sel.mk ky ny ly :: D) = Sel.mk 9 noN (Sel.mk kx nx lx :: Sel.mk ky ny ly :: D) from rfl, row_mk]
        generalize Sel.mk kx nx lx :: Sel.mk ky ny ly :: D = D2 at *
        change retOk _ _ _ _
        refine ret_pure rfl (by repeat' (first | exact True.intro | refine And.intro ?_ ?_ | exact (show 0 + D2.length ≤ (D2.map Sel.row).length by rw [List.length_map]; omega))) ?_
        exact ⟨ALe.agg ⟨ALe.refl, ALe.refl, ALe.pv (whole_le (Nat.le_refl _)), trivial⟩⟩
theorem c_rjoin (k : Int) (hk : k = 8 ∨ k = 9) (l : List Sel) (hne : l ≠ []) (hs : ∀ q ∈ l, IsS q) (hlv : lvL l ≤ 1000) : PCall Tryz.prog 110 [vint .i64 k, .pv (.sl 3 (l.map Sel.row))] (fun r => r = ag (joinV k l).row) := by
  rcases hk with rfl | rfl
  · exact (c_rjoin8 l hne hs hlv).weak fun r h => ⟨_, h.le, rfl⟩
  · exact (c_rjoin9 l hne hs hlv).weak fun r h => ⟨_, h.le, rfl⟩
end Go.Proofs.YtkbaecjnhmbeeaaGreat.Cw
/-
  The reference's simple form.
-/
namespace Go.Proofs.YtkbaecjnhmbeeaaGreat.Cw
open Go Go.Cw Go.Proofs
set_option linter.unusedVariables false
set_option maxRecDepth 100000
set_option maxHeartbeats 8000000
def RSimpOk (a b : Sel) : Prop := PCall Tryz.prog 40 [ag a.row] (fun r => r = ag b.row)
def RJoinOk (k : Int) (l : List Sel) (Z : Sel) : Prop := PCall Tryz.prog 110 [vint .i64 k, .pv (.sl 3 (l.map Sel.row))] (fun r => r = ag Z.row)
theorem c_rsimp0 (k : Int) (n : Str) : RSimpOk (.mk k n []) (.mk k n []) := by
  unfold RSimpOk
  rw [row_mk]
  refine acall_of tok mixed 74 rfl (fn := Tryz.f40) (c := Tryz.f40.body.getD .skip) (by kernel_rfl) (by kernel_rfl) (by kernel_rfl) rfl 0 rfl ?_
  repeat' (first | refine o1 ?_ | refine o2 ?_ | refine k1 ?_ | refine k2 ?_ | refine k3 ?_ | refine k7 ?_ | refine And.intro ?_ ?_ | (intro h; first | exact Bool.noConfusion h | exact nz _ h | exact nl h | (simp at h; done) | (simp at h; first | (exfalso; omega) | skip) | skip) | (change retOk _ _ _ _; refine ret_pure rfl trivial ?_) | exact (by kernel_rfl : drawOk _ _ = true) | refine eqv_len_map ?_ | fail)
  all_goals first
    | rfl
theorem c_rsimpK0 (k : Int) (n : Str) (l : List Sel) (f : Sel → Sel) (Z : Sel) (hne : l ≠ []) (hl : l.length ≤ 1000) (hks : ∀ q ∈ l, RSimpOk q (f q))
    (hZ : (k = 10 ∧ ∃ q, l = [q] ∧ IsS (f q) ∧ (∀ c ∈ (f q).kids, RSimpOk (.mk 10 noN [c]) (notV c)) ∧ ((f q).kind = 8 → RJoinOk 9 (notL (f q).kids) (notV (f q))) ∧ ((f q).kind = 9 → RJoinOk 8 (notL (f q).kids) (notV (f q))) ∧ (f q).kids.length ≤ 1000 ∧ Z = notV (f q)) ∨ ((k = 8 ∨ k = 9) ∧ RJoinOk k (l.map f) Z)) :
    PCall Tryz.prog 40 [ag (Sel.row (.mk k n l))] (fun r => Leq r (ag Z.row)) := by
  have h0 := List.length_pos_iff.2 hne
  rw [row_mk]
  refine acall_of tok mixed 74 rfl (fn := Tryz.f40) (c := Tryz.f40.body.getD .skip) (by kernel_rfl) (by kernel_rfl) (by kernel_rfl) rfl 0 rfl ?_
  repeat' (first | refine o1 ?_ | refine o2 ?_ | refine k1 ?_ | refine k2 ?_ | refine k3 ?_ | refine k4 ?_ | refine k6 ?_ | refine k7 ?_ | refine And.intro ?_ ?_ | (intro h; first | exact Bool.noConfusion h | exact nz _ h | exact nl h | (simp at h; done) | (simp at h; first | (exfalso; omega) | skip) | skip) | (change retOk _ _ _ _; refine ret_pure rfl trivial ?_) | exact (by kernel_rfl : drawOk _ _ = true) | refine eqv_len_map ?_ | fail)
  all_goals try (exact absurd (by assumption) hne)
  refine loop_for (fun i : Nat => [(1, .ptr 0 3 0 0), (2, .ptr 1 3 0 0), (3, slP 2 3 (((l.take i).map f).map Sel.row)), (4, vint .i64 i)]) (fun i => [selB [ei k, es n, .sl 3 (l.map Sel.row)], selB zeroC, obP 52 3 (((l.take i).map f).map Sel.row)]) (fun i => i ≤ l.length) (fun i => l.length - i) 0 (Nat.zero_le _) ?_ ?_
  · exact back [0, 1, 2] rfl rfl (by repeat' (first | exact trivial | exact rfl | refine And.intro ?_ ?_)) (by repeat' (first | exact trivial | exact rfl | refine And.intro ?_ ?_))
  intro i hi
  rcases Nat.lt_or_ge i l.length with hlt | hge
  · obtain ⟨q, hq⟩ := getE hlt
    have hc := hks q (List.mem_of_getElem? hq)
    unfold RSimpOk at hc
    have hsn : (l.take (i + 1)).map f = (l.take i).map f ++ [f q] := by rw [take_snoc hq, List.map_append]; rfl
    have hln : ((l.take i).map f).length ≤ 1000 := by rw [List.length_map, List.length_take]; omega
    generalize (l.take i).map f = F at *
    generalize f q = q2 at *
    obtain ⟨kq, nq, lq⟩ := q
    obtain ⟨kp, np, lp⟩ := q2
    repeat' (first | (refine fv_sl ?_) | (refine fh_ob ?_) | (refine idx_sl (k := i) (at_map hq) rfl ?_) | ((change vcFun _ _ _ _ _; refine call_frz rfl (by repeat' (first | trivial | refine And.intro ?_ ?_ | (show 0 + _ ≤ List.length _; simp))) ALeL.refl hc ?_; rintro _ rfl)) | ((refine o_app rfl rfl rfl rfl rfl rfl rfl rfl rfl rfl rfl (by rw [List.length_map]; omega) (by rw [List.length_map]; omega) ?_)) | refine o1 ?_ | refine o2 ?_ | refine k1 ?_ | refine k2 ?_ | refine k3 ?_ | refine k4 ?_ | refine k6 ?_ | refine And.intro ?_ ?_ | (intro h; first | exact Bool.noConfusion h | exact nz _ h | exact nl h | (simp at h; done) | (simp at h; first | (exfalso; omega) | skip) | skip) | refine eqv_len_map ?_ | refine eqv_wrap (by omega) (by omega) ?_ | fail)
    all_goals first
      | (refine ⟨i + 1, by omega, by omega, ?_⟩
         rw [hsn, map_snoc, sl_app, ob_app]
         exact back [0, 1, 4] rfl rfl (by repeat' (first | exact trivial | exact rfl | refine And.intro ?_ ?_)) (by repeat' (first | exact trivial | exact rfl | refine And.intro ?_ ?_)))
  · obtain rfl : i = l.length := by omega
    rw [List.take_length]
    clear hks
    rcases hZ with ⟨rfl, q, rfl, hS, hkn, h8, h9, hkl, rfl⟩ | ⟨hk, hj⟩
    · rw [show [q].map f = [f q] from rfl]
      generalize f q = y at *
      cases hS with
      | leaf hk =>
        rename_i ky ny
        have h1 := c_rnot (.mk ky ny [])
        rw [show notV (.mk ky ny []) = .mk 10 noN [.mk ky ny []] by rw [notV, if_neg (by omega), if_neg (by omega), if_neg (by omega)]]
        generalize hY : Sel.mk 10 noN [Sel.mk ky ny []] = Y at *
        obtain ⟨kz, nz', lz⟩ := Y
        clear hY
        have e1 : (ky == 10) = false := beq_eq_false_iff_ne.2 (by omega)
        have e2 : (ky == 8) = false := beq_eq_false_iff_ne.2 (by omega)
        have e3 : (ky == 9) = false := beq_eq_false_iff_ne.2 (by omega)
        repeat' (first | (refine ⟨_, rfl, (Nat.le_of_ble_eq_true rfl), ?_⟩) | (refine ⟨_, rfl, ?_⟩) | ((change vcFun _ _ _ _ _; refine call_frz rfl (by repeat' (first | trivial | refine And.intro ?_ ?_ | (show 0 + _ ≤ List.length _; simp))) ALeL.refl h1 ?_; rintro _ rfl)) | refine o1 ?_ | refine o2 ?_ | refine k1 ?_ | refine k2 ?_ | refine k3 ?_ | refine k4 ?_ | refine k6 ?_ | refine k7 ?_ | refine k8 ?_ | refine And.intro ?_ ?_ | (intro h; first | exact Bool.noConfusion h | exact nz _ h | exact nl h | (simp at h; done) | (simp at h; first | (exfalso; omega) | skip) | skip) | (change retOk _ _ _ _; refine ret_pure rfl trivial ?_) | exact (by kernel_rfl : drawOk _ _ = true) | fail)
        all_goals try (exfalso; omega)
        all_goals first
          | exact ⟨ALe.refl⟩
      | not_ hk =>
        rename_i ky ny
        rw [show notV (.mk 10 noN [.mk ky ny []]) = .mk ky ny [] by rw [notV, if_pos rfl]; rfl]
        repeat' (first | (refine ⟨_, rfl, (Nat.le_of_ble_eq_true rfl), ?_⟩) | (refine ⟨_, rfl, ?_⟩) | (refine idx_sl (k := 0) rfl rfl ?_) | refine o1 ?_ | refine o2 ?_ | refine k1 ?_ | refine k2 ?_ | refine k3 ?_ | refine k4 ?_ | refine k6 ?_ | refine k7 ?_ | refine k8 ?_ | refine And.intro ?_ ?_ | (intro h; first | exact Bool.noConfusion h | exact nz _ h | exact nl h | (simp at h; done) | (simp at h; first | (exfalso; omega) | skip) | skip) | (change retOk _ _ _ _; refine ret_pure rfl trivial ?_) | exact (by kernel_rfl : drawOk _ _ = true) | fail)
        all_goals first
          | exact ⟨ALe.refl⟩
      | join hk hs hkd ho h2 he hn =>
        rename_i ky ly
        have h8 : ky = 8 → RJoinOk 9 (notL ly) (notV (.mk ky noN ly)) := h8
        have h9 : ky = 9 → RJoinOk 8 (notL ly) (notV (.mk ky noN ly)) := h9
        have hkn : ∀ c ∈ ly, RSimpOk (.mk 10 noN [c]) (notV c) := hkn
        have hkl : ly.length ≤ 1000 := hkl
        have hlne : ly ≠ [] := fun e => by rw [e] at h2; simp at h2
        rw [notL_map] at h8 h9
        clear hs hkd ho h2 he hn
        rcases hk with rfl | rfl
        · have hj := h8 rfl
          unfold RJoinOk at hj
          generalize notV (.mk 8 noN ly) = Z at *
          obtain ⟨kz, nz', lz⟩ := Z
          repeat' (first | (refine ⟨_, rfl, (Nat.le_of_ble_eq_true rfl), ?_⟩) | (refine ⟨_, rfl, ?_⟩) | refine o1 ?_ | refine o2 ?_ | refine k1 ?_ | refine k2 ?_ | refine k3 ?_ | refine k4 ?_ | refine k6 ?_ | refine k8 ?_ | refine And.intro ?_ ?_ | (intro h; first | exact Bool.noConfusion h | exact nz _ h | exact nl h | (simp at h; done) | (simp at h; first | (exfalso; omega) | skip) | skip) | exact (by kernel_rfl : drawOk _ _ = true) | fail)
          refine loop_for (fun i : Nat => [(2, .ptr 0 3 0 0), (5, .ptr 1 3 0 0), (6, slP 2 3 (((ly.take i).map notV).map Sel.row)), (7, vint .i64 i)]) (fun i => [selB zeroC, selB [ei 8, es noN, .sl 3 (ly.map Sel.row)], obP 52 3 (((ly.take i).map notV).map Sel.row)]) (fun i => i ≤ ly.length) (fun i => ly.length - i) 0 (Nat.zero_le _) ?_ ?_
          · rw [selRows_map ly]
            exact back [1, 3, 4] rfl rfl (by repeat' (first | exact trivial | exact rfl | refine And.intro ?_ ?_)) (by repeat' (first | exact trivial | exact rfl | refine And.intro ?_ ?_))
          intro i hi
          rcases Nat.lt_or_ge i ly.length with hlt | hge
          · obtain ⟨q2, hq⟩ := getE hlt
            have hc := hkn q2 (List.mem_of_getElem? hq)
            have h1 := c_rnot q2
            unfold RSimpOk at hc
            rw [row_mk] at hc h1
            have hsn : (ly.take (i + 1)).map notV = (ly.take i).map notV ++ [notV q2] := by rw [take_snoc hq, List.map_append]; rfl
            have hln : ((ly.take i).map notV).length ≤ 1000 := by rw [List.length_map, List.length_take]; omega
            generalize (ly.take i).map notV = F at *
            generalize notV q2 = q3 at *
            obtain ⟨kq, nq, lq⟩ := q2
            obtain ⟨kp, np, lp⟩ := q3
            repeat' (first | (refine fv_sl ?_) | (refine fh_ob ?_) | (refine idx_sl (k := i) (at_map hq) rfl ?_) | ((change vcFun _ _ _ _ _; refine call_frz rfl (by repeat' (first | trivial | refine And.intro ?_ ?_ | (show 0 + _ ≤ List.length _; simp))) ALeL.refl h1 ?_; rintro _ rfl)) | ((change vcFun _ _ _ _ _; refine call_frz rfl (by repeat' (first | trivial | refine And.intro ?_ ?_ | (show 0 + _ ≤ List.length _; simp))) ALeL.refl hc ?_; rintro _ rfl)) | ((refine o_app rfl rfl rfl rfl rfl rfl rfl rfl rfl rfl rfl (by rw [List.length_map]; omega) (by rw [List.length_map]; omega) ?_)) | refine o1 ?_ | refine o2 ?_ | refine k1 ?_ | refine k2 ?_ | refine k3 ?_ | refine k4 ?_ | refine k6 ?_ | refine And.intro ?_ ?_ | (intro h; first | exact Bool.noConfusion h | exact nz _ h | exact nl h | (simp at h; done) | (simp at h; first | (exfalso; omega) | skip) | skip) | refine eqv_len_map ?_ | refine eqv_wrap (by omega) (by omega) ?_ | fail)
            all_goals first
              | (refine ⟨i + 1, by omega, by omega, ?_⟩
                 rw [hsn, map_snoc, sl_app, ob_app]
                 exact back [0, 1, 4] rfl rfl (by repeat' (first | exact trivial | exact rfl | refine And.intro ?_ ?_)) (by repeat' (first | exact trivial | exact rfl | refine And.intro ?_ ?_)))
          · obtain rfl : i = ly.length := by omega
            rw [List.take_length]
            have hFn : ly.map notV ≠ [] := by simpa using hlne
            rw [sl_neS hFn, ob_neS hFn]
            have hle : ALeL [vint .i64 9, .pv (.sl 3 (List.take (ly.map notV).length (List.drop 0 ((ly.map notV).map Sel.row))))] [vint .i64 9, .pv (.sl 3 ((ly.map notV).map Sel.row))] := ⟨ALe.refl, ALe.pv (whole_le (l := ly.map notV) (f := Sel.row) (Nat.le_refl _)), trivial⟩
            have hok : 0 + (ly.map notV).length ≤ ((ly.map notV).map Sel.row).length := by simp
            generalize ly.map notV = F at *
            repeat' (first | ((change vcFun _ _ _ _ _; refine call_frz rfl (by repeat' (first | exact True.intro | refine And.intro ?_ ?_ | exact hok)) hle hj ?_; rintro _ rfl)) | refine o1 ?_ | refine o2 ?_ | refine k1 ?_ | refine k2 ?_ | refine k3 ?_ | refine k7 ?_ | refine k8 ?_ | refine And.intro ?_ ?_ | (intro h; first | exact Bool.noConfusion h | exact nz _ h | exact nl h | (simp at h; done) | (simp at h; first | (exfalso; omega) | skip) | skip) | (change retOk _ _ _ _; refine ret_pure rfl trivial ?_) | refine eqv_len_map ?_ | refine eqv_wrap (by omega) (by omega) ?_ | fail)
            all_goals first
              | exact ⟨ALe.refl⟩
        · have hj := h9 rfl
          unfold RJoinOk at hj
          generalize notV (.mk 9 noN ly) = Z at *
          obtain ⟨kz, nz', lz⟩ := Z
          repeat' (first | (refine ⟨_, rfl, (Nat.le_of_ble_eq_true rfl), ?_⟩) | (refine ⟨_, rfl, ?_⟩) | refine o1 ?_ | refine o2 ?_ | refine k1 ?_ | refine k2 ?_ | refine k3 ?_ | refine k4 ?_ | refine k6 ?_ | refine k8 ?_ | refine And.intro ?_ ?_ | (intro h; first | exact Bool.noConfusion h | exact nz _ h | exact nl h | (simp at h; done) | (simp at h; first | (exfalso; omega) | skip) | skip) | exact (by kernel_rfl : drawOk _ _ = true) | fail)
          refine loop_for (fun i : Nat => [(2, .ptr 0 3 0 0), (5, .ptr 1 3 0 0), (6, slP 2 3 (((ly.take i).map notV).map Sel.row)), (7, vint .i64 i)]) (fun i => [selB zeroC, selB [ei 9, es noN, .sl 3 (ly.map Sel.row)], obP 52 3 (((ly.take i).map notV).map Sel.row)]) (fun i => i ≤ ly.length) (fun i => ly.length - i) 0 (Nat.zero_le _) ?_ ?_
          · rw [selRows_map ly]
            exact back [1, 3, 4] rfl rfl (by repeat' (first | exact trivial | exact rfl | refine And.intro ?_ ?_)) (by repeat' (first | exact trivial | exact rfl | refine And.intro ?_ ?_))
          intro i hi
          rcases Nat.lt_or_ge i ly.length with hlt | hge
          · obtain ⟨q2, hq⟩ := getE hlt
            have hc := hkn q2 (List.mem_of_getElem? hq)
            have h1 := c_rnot q2
            unfold RSimpOk at hc
            rw [row_mk] at hc h1
            have hsn : (ly.take (i + 1)).map notV = (ly.take i).map notV ++ [notV q2] := by rw [take_snoc hq, List.map_append]; rfl
            have hln : ((ly.take i).map notV).length ≤ 1000 := by rw [List.length_map, List.length_take]; omega
            generalize (ly.take i).map notV = F at *
            generalize notV q2 = q3 at *
            obtain ⟨kq, nq, lq⟩ := q2
            obtain ⟨kp, np, lp⟩ := q3
            repeat' (first | (refine fv_sl ?_) | (refine fh_ob ?_) | (refine idx_sl (k := i) (at_map hq) rfl ?_) | ((change vcFun _ _ _ _ _; refine call_frz rfl (by repeat' (first | trivial | refine And.intro ?_ ?_ | (show 0 + _ ≤ List.length _; simp))) ALeL.refl h1 ?_; rintro _ rfl)) | ((change vcFun _ _ _ _ _; refine call_frz rfl (by repeat' (first | trivial | refine And.intro ?_ ?_ | (show 0 + _ ≤ List.length _; simp))) ALeL.refl hc ?_; rintro _ rfl)) | ((refine o_app rfl rfl rfl rfl rfl rfl rfl rfl rfl rfl rfl (by rw [List.length_map]; omega) (by rw [List.length_map]; omega) ?_)) | refine o1 ?_ | refine o2 ?_ | refine k1 ?_ | refine k2 ?_ | refine k3 ?_ | refine k4 ?_ | refine k6 ?_ | refine And.intro ?_ ?_ | (intro h; first | exact Bool.noConfusion h | exact nz _ h | exact nl h | (simp at h; done) | (simp at h; first | (exfalso; omega) | skip) | skip) | refine eqv_len_map ?_ | refine eqv_wrap (by omega) (by omega) ?_ | fail)
            all_goals first
              | (refine ⟨i + 1, by omega, by omega, ?_⟩
                 rw [hsn, map_snoc, sl_app, ob_app]
                 exact back [0, 1, 4] rfl rfl (by repeat' (first | exact trivial | exact rfl | refine And.intro ?_ ?_)) (by repeat' (first | exact trivial | exact rfl | refine And.intro ?_ ?_)))
          · obtain rfl : i = ly.length := by omega
            rw [List.take_length]
            have hFn : ly.map notV ≠ [] := by simpa using hlne
            rw [sl_neS hFn, ob_neS hFn]
            have hle : ALeL [vint .i64 8, .pv (.sl 3 (List.take (ly.map notV).length (List.drop 0 ((ly.map notV).map Sel.row))))] [vint .i64 8, .pv (.sl 3 ((ly.map notV).map Sel.row))] := ⟨ALe.refl, ALe.pv (whole_le (l := ly.map notV) (f := Sel.row) (Nat.le_refl _)), trivial⟩
            have hok : 0 + (ly.map notV).length ≤ ((ly.map notV).map Sel.row).length := by simp
            generalize ly.map notV = F at *
            repeat' (first | ((change vcFun _ _ _ _ _; refine call_frz rfl (by repeat' (first | exact True.intro | refine And.intro ?_ ?_ | exact hok)) hle hj ?_; rintro _ rfl)) | refine o1 ?_ | refine o2 ?_ | refine k1 ?_ | refine k2 ?_ | refine k3 ?_ | refine k7 ?_ | refine k8 ?_ | refine And.intro ?_ ?_ | (intro h; first | exact Bool.noConfusion h | exact nz _ h | exact nl h | (simp at h; done) | (simp at h; first | (exfalso; omega) | skip) | skip) | (change retOk _ _ _ _; refine ret_pure rfl trivial ?_) | refine eqv_len_map ?_ | refine eqv_wrap (by omega) (by omega) ?_ | fail)
            all_goals first
              | exact ⟨ALe.refl⟩
    · have hFn : l.map f ≠ [] := by simpa using hne
      rw [sl_neS hFn, ob_neS hFn]
      have hle : ALeL [vint .i64 k, .pv (.sl 3 (List.take (l.map f).length (List.drop 0 ((l.map f).map Sel.row))))] [vint .i64 k, .pv (.sl 3 ((l.map f).map Sel.row))] := ⟨ALe.refl, ALe.pv (whole_le (l := l.map f) (f := Sel.row) (Nat.le_refl _)), trivial⟩
      have hok : 0 + (l.map f).length ≤ ((l.map f).map Sel.row).length := by simp
      generalize l.map f = F at *
      obtain ⟨kz, nz', lz⟩ := Z
      unfold RJoinOk at hj
      rcases hk with rfl | rfl
      · repeat' (first | ((change vcFun _ _ _ _ _; refine call_frz rfl (by repeat' (first | exact True.intro | refine And.intro ?_ ?_ | exact hok)) hle hj ?_; rintro _ rfl)) | refine o1 ?_ | refine o2 ?_ | refine k1 ?_ | refine k2 ?_ | refine k3 ?_ | refine k7 ?_ | refine k8 ?_ | refine And.intro ?_ ?_ | (intro h; first | exact Bool.noConfusion h | exact nz _ h | exact nl h | (simp at h; done) | (simp at h; first | (exfalso; omega) | skip) | skip) | (change retOk _ _ _ _; refine ret_pure rfl trivial ?_) | refine eqv_len_map ?_ | fail)
        all_goals first
          | exact ⟨ALe.refl⟩
      · repeat' (first | ((change vcFun _ _ _ _ _; refine call_frz rfl (by repeat' (first | exact True.intro | refine And.intro ?_ ?_ | exact hok)) hle hj ?_; rintro _ rfl)) | refine o1 ?_ | refine o2 ?_ | refine k1 ?_ | refine k2 ?_ | refine k3 ?_ | refine k7 ?_ | refine k8 ?_ | refine And.intro ?_ ?_ | (intro h; first | exact Bool.noConfusion h | exact nz _ h | exact nl h | (simp at h; done) | (simp at h; first | (exfalso; omega) | skip) | skip) | (change retOk _ _ _ _; refine ret_pure rfl trivial ?_) | refine eqv_len_map ?_ | fail)
        all_goals first
          | exact ⟨ALe.refl⟩
theorem c_rsimpK (k : Int) (n : Str) (l : List Sel) (f : Sel → Sel) (Z : Sel) (hne : l ≠ []) (hl : l.length ≤ 1000) (hks : ∀ q ∈ l, RSimpOk q (f q))
    (hZ : (k = 10 ∧ ∃ q, l = [q] ∧ IsS (f q) ∧ (∀ c ∈ (f q).kids, RSimpOk (.mk 10 noN [c]) (notV c)) ∧ ((f q).kind = 8 → RJoinOk 9 (notL (f q).kids) (notV (f q))) ∧ ((f q).kind = 9 → RJoinOk 8 (notL (f q).kids) (notV (f q))) ∧ (f q).kids.length ≤ 1000 ∧ Z = notV (f q)) ∨ ((k = 8 ∨ k = 9) ∧ RJoinOk k (l.map f) Z)) :
    RSimpOk (.mk k n l) Z := (c_rsimpK0 k n l f Z hne hl hks hZ).weak fun r h => ⟨_, h.le, rfl⟩
theorem c_rfix : ∀ (s : Sel) (hs : IsS s) (hlv : lv s ≤ 1000), RSimpOk s s
  | _, .leaf (k := k) (n := n) h, hlv => c_rsimp0 k n
  | _, .not_ (k := k) (n := n) h, hlv => by
    refine c_rsimpK 10 noN [.mk k n []] id _ (by simp) (by simp) (fun q hq => ?_) (.inl ⟨rfl, .mk k n [], rfl, .leaf h, fun c hc => (by cases hc), fun e => ?_, fun e => ?_, (by show 0 ≤ 1000; omega), ?_⟩)
    · rw [List.mem_singleton.1 hq]; exact c_rsimp0 k n
    · have e : k = 8 := e
      omega
    · have e : k = 9 := e
      omega
    · show _ = notV (.mk k n [])
      rw [notV, if_neg (by omega), if_neg (by omega), if_neg (by omega)]
  | _, .join (k := k) (l := l) hk hs hkd ho h2 he hn, hlv => by
    have hne : l ≠ [] := fun e => by rw [e] at h2; simp at h2
    have hJ := join_fix (n := noN) hk (.join hk hs hkd ho h2 he hn)
    rw [lv_mk hne] at hlv
    have hln := len_lv l
    refine c_rsimpK k noN l id _ hne (by omega) (fun q hq => c_rfix q (hs q hq) (by have := lv_mem hq; omega)) (.inr ⟨hk, ?_⟩)
    have h := c_rjoin k hk l hne hs (by omega)
    rw [hJ] at h
    rw [List.map_id]
    exact h
theorem rjoin_not {k : Int} {l : List Sel} (hs : IsS (.mk k noN l)) (hk : k = 8 ∨ k = 9) (hlv : lv (.mk k noN l) ≤ 1000) : (k = 8 → RJoinOk 9 (notL l) (notV (.mk k noN l))) ∧ (k = 9 → RJoinOk 8 (notL l) (notV (.mk k noN l))) := by
  cases hs with
  | leaf h => omega
  | not_ h => omega
  | join g1 hs hkd ho h2 he hn =>
    have hne : l ≠ [] := fun e => by rw [e] at h2; simp at h2
    rw [lv_mk hne] at hlv
    have hN : ∀ q ∈ notL l, IsS q := fun q hq => by
      rw [notL_map] at hq
      obtain ⟨x, hx, rfl⟩ := List.mem_map.1 hq
      exact not_ok (hs x hx)
    have hNv : lvL (notL l) ≤ lvL l := by rw [notL_map]; exact lvL_map fun q hq => lv_not (hs q hq)
    have hNn : notL l ≠ [] := by rw [notL_map]; simpa using hne
    refine ⟨fun e => ?_, fun e => ?_⟩
    · subst e
      rw [notV, if_neg (by decide), if_pos rfl]
      exact c_rjoin 9 (.inr rfl) _ hNn hN (by omega)
    · subst e
      rw [notV, if_neg (by decide), if_neg (by decide), if_pos rfl]
      exact c_rjoin 8 (.inl rfl) _ hNn hN (by omega)
theorem under_not {t : Sel} (ht : IsS t) (hlv : lv t ≤ 1000) (hk : ∀ c ∈ t.kids, t.kind ≠ 10 → RSimpOk (.mk 10 noN [c]) (notV c)) (hk2 : t.kind = 10 → ∀ c ∈ t.kids, RSimpOk (.mk 10 noN [c]) (notV c)) :
    (∀ c ∈ t.kids, RSimpOk (.mk 10 noN [c]) (notV c)) ∧ (t.kind = 8 → RJoinOk 9 (notL t.kids) (notV t)) ∧ (t.kind = 9 → RJoinOk 8 (notL t.kids) (notV t)) ∧ t.kids.length ≤ 1000 := by
  refine ⟨fun c hc => ?_, fun e => ?_, fun e => ?_, ?_⟩
  · by_cases e : t.kind = 10
    · exact hk2 e c hc
    · exact hk c hc e
  · cases ht with
    | leaf h => have e : _ = (8 : Int) := e; dsimp only [Sel.kind] at e; omega
    | not_ h => have e : (10 : Int) = 8 := e; omega
    | join g1 hs hkd ho h2 he hn => exact (rjoin_not (.join g1 hs hkd ho h2 he hn) g1 hlv).1 e
  · cases ht with
    | leaf h => have e : _ = (9 : Int) := e; dsimp only [Sel.kind] at e; omega
    | not_ h => have e : (10 : Int) = 9 := e; omega
    | join g1 hs hkd ho h2 he hn => exact (rjoin_not (.join g1 hs hkd ho h2 he hn) g1 hlv).2 e
  · have h1 := lv_kids (s := t)
    have h2 := len_lv t.kids
    omega
theorem c_rleafnot (k : Int) (n : Str) (h : 1 ≤ k ∧ k ≤ 7) : RSimpOk (.mk 10 noN [.mk k n []]) (notV (.mk k n [])) := by
  rw [show notV (.mk k n []) = .mk 10 noN [.mk k n []] by rw [notV, if_neg (by omega), if_neg (by omega), if_neg (by omega)]]
  exact c_rfix _ (.not_ h) (by rw [lv, lvL_cons, lvL_nil, lv, lvL_nil]; decide)
theorem c_rnotS : ∀ (s : Sel) (hs : IsS s) (hlv : lv s ≤ 1000), RSimpOk (.mk 10 noN [s]) (notV s)
  | _, .leaf (k := k) (n := n) h, hlv => c_rleafnot k n h
  | _, .not_ (k := k) (n := n) h, hlv => by
    have hS : IsS (.mk 10 noN [.mk k n []]) := .not_ h
    obtain ⟨u1, u2, u3, u4⟩ := under_not hS hlv (fun c hc e => absurd rfl e) fun e c hc => by
      rw [List.mem_singleton.1 hc]; exact c_rleafnot k n h
    exact c_rsimpK 10 noN [.mk 10 noN [.mk k n []]] id _ (by simp) (by simp) (fun q hq => by rw [List.mem_singleton.1 hq]; exact c_rfix _ hS hlv) (.inl ⟨rfl, _, rfl, hS, u1, u2, u3, u4, rfl⟩)
  | _, .join (k := k) (l := l) hk hs hkd ho h2 he hn, hlv => by
    have hS : IsS (.mk k noN l) := .join hk hs hkd ho h2 he hn
    have hne : l ≠ [] := fun e => by rw [e] at h2; simp at h2
    have hlv2 := hlv
    rw [lv_mk hne] at hlv2
    obtain ⟨u1, u2, u3, u4⟩ := under_not hS hlv (fun c hc e => c_rnotS c (hs c hc) (by have := lv_mem (show c ∈ l from hc); omega)) fun e c hc => by
      have e : k = 10 := e
      omega
    exact c_rsimpK 10 noN [.mk k noN l] id _ (by simp) (by simp) (fun q hq => by rw [List.mem_singleton.1 hq]; exact c_rfix _ hS hlv) (.inl ⟨rfl, _, rfl, hS, u1, u2, u3, u4, rfl⟩)
theorem kid_ok {t c : Sel} (ht : IsS t) (hc : c ∈ t.kids) : IsS c := by
  cases ht with
  | leaf h => cases hc
  | not_ h => rw [List.mem_singleton.1 hc]; exact .leaf h
  | join g1 hs hkd ho h2 he hn => exact hs c hc
theorem c_rsimple : ∀ (s : Sel) (hs : IsR s) (hlv : lv s ≤ 1000), RSimpOk s (simpV s)
  | _, .leaf (k := k) (n := n) h, hlv => by
    rw [simpV, if_neg (by omega), if_neg (by omega)]
    exact c_rsimp0 k n
  | _, .not_ (s := s) h, hlv => by
    have h1 : lv s ≤ 1000 := by rw [lv_mk (by simp), lvL_cons, lvL_nil] at hlv; omega
    have h2 := lv_simp h
    have hS := simp_ok h
    rw [simpV, if_pos rfl, simpL, simpL]
    have hkid : ∀ c ∈ (simpV s).kids, RSimpOk (.mk 10 noN [c]) (notV c) := fun c hc => c_rnotS c (kid_ok hS hc) (by have g1 := lv_mem hc; have g2 := lv_kids (s := simpV s); omega)
    obtain ⟨u1, u2, u3, u4⟩ := under_not hS (by omega) (fun c hc _ => hkid c hc) fun _ => hkid
    exact c_rsimpK 10 noN [s] simpV _ (by simp) (by simp) (fun q hq => by rw [List.mem_singleton.1 hq]; exact c_rsimple s h h1) (.inl ⟨rfl, s, rfl, hS, u1, u2, u3, u4, rfl⟩)
  | _, .join (k := k) (l := l) hk hs h2, hlv => by
    have hne : l ≠ [] := fun e => by rw [e] at h2; simp at h2
    rw [lv_mk hne] at hlv
    have hln := len_lv l
    have h1 : lvL (l.map simpV) ≤ lvL l := lvL_map fun q hq => lv_simp (hs q hq)
    rw [simpV, if_neg (by omega), if_pos hk, simpL_map]
    exact c_rsimpK k noN l simpV _ hne (by omega) (fun q hq => c_rsimple q (hs q hq) (by have := lv_mem hq; omega)) (.inr ⟨hk, c_rjoin k hk _ (by simpa using hne) (fun q hq => by
      obtain ⟨x, hx, rfl⟩ := List.mem_map.1 hq
      exact simp_ok (hs x hx)) (by omega)⟩)
theorem c_rSimple0 (s : Sel) (hs : SelL s) : PCall Tryz.prog 14 [ag s.row] (fun r => Leq r (.tup [ag (simA s).row, vint .i64 (simE s)])) := by
  have h1 := c_rSound s hs
  unfold simA simE
  by_cases h : selP s
  · obtain ⟨g1, g2⟩ := sel_lv hs h
    have h2 := c_rsimple s g1 (by omega)
    unfold RSimpOk at h2
    rw [pB_t h] at *
    rw [if_pos rfl, if_pos rfl]
    generalize simpV s = Z at *
    obtain ⟨k, n, l⟩ := s
    obtain ⟨kz, nz', lz⟩ := Z
    rw [row_mk (k := k)] at *
    refine acall_of tok mixed 10 rfl (fn := Tryz.f14) (c := Tryz.f14.body.getD .skip) (by kernel_rfl) (by kernel_rfl) (by kernel_rfl) rfl 0 rfl ?_
    repeat' (first | ((change vcFun _ _ _ _ _; refine call_frz rfl (by repeat' (first | trivial | refine And.intro ?_ ?_ | (show 0 + _ ≤ List.length _; simp))) ALeL.refl h2 ?_; rintro _ rfl)) | refine o1 ?_ | refine o2 ?_ | refine k1 ?_ | refine k2 ?_ | refine k3 ?_ | refine k6 ?_ | refine k7 ?_ | refine And.intro ?_ ?_ | (intro h; first | exact Bool.noConfusion h | exact nz _ h | exact nl h | (simp at h; done) | (simp at h; first | (exfalso; omega) | skip) | skip) | exact (by kernel_rfl : drawOk _ _ = true) | (change vcFun _ _ _ _ _; refine call_eq rfl (by repeat' (first | trivial | refine And.intro ?_ ?_ | (show 0 + _ ≤ List.length _; simp))) ALeL.refl (h1) rfl ?_) | fail)
    all_goals first
      | (change retOk _ _ _ _; refine ret_pure rfl (by repeat' (first | exact True.intro | refine And.intro ?_ ?_)) ?_; exact ⟨ALe.refl⟩)
  · rw [pB_f h] at *
    rw [if_neg (by decide), if_neg (by decide), row_mk]
    obtain ⟨k, n, l⟩ := s
    rw [row_mk (k := k)] at *
    refine acall_of tok mixed 10 rfl (fn := Tryz.f14) (c := Tryz.f14.body.getD .skip) (by kernel_rfl) (by kernel_rfl) (by kernel_rfl) rfl 0 rfl ?_
    repeat' (first | refine o1 ?_ | refine o2 ?_ | refine k1 ?_ | refine k2 ?_ | refine k3 ?_ | refine k7 ?_ | refine And.intro ?_ ?_ | (intro h; first | exact Bool.noConfusion h | exact nz _ h | exact nl h | (simp at h; done) | (simp at h; first | (exfalso; omega) | skip) | skip) | exact (by kernel_rfl : drawOk _ _ = true) | (change vcFun _ _ _ _ _; refine call_eq rfl (by repeat' (first | trivial | refine And.intro ?_ ?_ | (show 0 + _ ≤ List.length _; simp))) ALeL.refl (h1) rfl ?_) | fail)
    all_goals first
      | (change retOk _ _ _ _; refine ret_pure rfl (by repeat' (first | exact True.intro | refine And.intro ?_ ?_)) ?_; exact ⟨ALe.tup ⟨ALe.agg ⟨ALe.refl, ALe.refl, ALe.pv PLe.nil, trivial⟩, ALe.refl, trivial⟩⟩)
theorem c_rSimple (s : Sel) (hs : SelL s) : PCall Tryz.prog 14 [ag s.row] (fun r => r = .tup [ag (simA s).row, vint .i64 (simE s)]) := (c_rSimple0 s hs).weak fun r k => ⟨_, k.le, rfl⟩
end Go.Proofs.YtkbaecjnhmbeeaaGreat.Cw
/-
  Selections: which classes they mean, and which names are known, by the reference; Members.
-/
namespace Go.Proofs.YtkbaecjnhmbeeaaGreat.Cw
open Go.Cw Go.Proofs
set_option linter.unusedVariables false
set_option maxRecDepth 100000
set_option maxHeartbeats 4000000
def RMeantOk (r : Reg) (i : Nat) (c : Class) (s : Sel) : Prop := PCall Tryz.prog 37 [ag r.cells, ag s.row, vint .i64 i] (fun a => a = vbool (hasS r c s))
theorem cntS_le {r : Reg} {c : Class} {l : List Sel} : cntS r c l ≤ l.length := by rw [cntS_eq]; exact List.countP_le_length
theorem cnt_snoc {r : Reg} {c : Class} {l : List Sel} {i : Nat} {q : Sel} (h : l[i]? = some q) : cntS r c (l.take (i + 1)) = cntS r c (l.take i) + (if hasS r c q then 1 else 0) := by
  rw [take_snoc h, cntS_eq, cntS_eq, List.countP_append]
  simp [List.countP_cons]
theorem c_rmeant (r : Reg) (i : Nat) (c : Class) (hr : RegS r) (hc : r.classes[i]? = some c) : ∀ (s : Sel) (hs : SelL s) (hb : soundB s = true), RMeantOk r i c s := by
  have hcm := List.mem_of_getElem? hc
  intro s hs
  induction hs with
  | mk hl hk ih =>
    rename_i k n l
    intro hb
    rw [sound_mk, Bool.and_eq_true] at hb
    obtain ⟨hb1, hb2⟩ := hb
    have hkid : ∀ q ∈ l, RMeantOk r i c q := fun q hq => ih q hq (List.all_eq_true.1 hb1 q hq)
    obtain ⟨hh, hkp⟩ := form_iff.1 hb2
    have hi := hr.lens.classes
    have hlt0 := (List.getElem?_eq_some_iff.1 hc).1
    unfold RMeantOk
    rw [row_mk] at *
    by_cases h8 : k = 8 ∨ k = 9 ∨ k = 10
    · have hcl := cntS_le (r := r) (c := c) (l := l)
      have hS : hasS r c (.mk k n l) = if k = 8 then decide (cntS r c l = l.length) else if k = 9 then decide (0 < cntS r c l) else decide (cntS r c l = 0) := by
        rw [hasS]
        rcases h8 with rfl | rfl | rfl <;> rfl
      rw [hS]
      refine acall_of tok mixed 106 rfl (fn := Tryz.f37) (c := Tryz.f37.body.getD .skip) (by kernel_rfl) (by kernel_rfl) (by kernel_rfl) rfl 0 rfl ?_
      repeat' (first | refine o1 ?_ | refine o2 ?_ | refine k1 ?_ | refine k2 ?_ | refine k3 ?_ | refine k4 ?_ | refine k6 ?_ | refine And.intro ?_ ?_ | (intro h; first | exact Bool.noConfusion h | exact nz _ h | exact nl h | (simp at h; done) | (simp at h; first | (exfalso; omega) | skip) | skip) | exact (by kernel_rfl : drawOk _ _ = true) | refine ⟨_, _, (by first | rfl | assumption), at_map (by assumption), ?_⟩ | fail)
      all_goals try (exfalso; omega)
      refine loop_in (fun j : Nat => [(9, vint .i64 (cntS r c (l.take j) : Nat)), (10, vint .i64 j)]) (fun _ => [some ⟨37, 14, false, .box (pvs r.cells)⟩, some ⟨52, 3, false, .box (pvs [ei k, es n, .sl 3 (l.map Sel.row)])⟩, some ⟨65, 9, false, .box (pvs c.row)⟩]) (fun j => j ≤ l.length) (fun j => l.length - j) 0 (Nat.zero_le _) ⟨?_, ?_⟩
      · exact back [0, 1, 2] rfl rfl ⟨rfl, rfl, rfl, trivial⟩ (by repeat' (first | exact trivial | exact rfl | refine And.intro ?_ ?_))
      intro j hj
      have hcj := cntS_le (r := r) (c := c) (l := l.take j)
      have hcj2 := List.length_take_le j l
      rcases Nat.lt_or_ge j l.length with hlt | hge
      · obtain ⟨⟨kq, nq, lq⟩, hq⟩ := getE hlt
        have hcall := hkid _ (List.mem_of_getElem? hq)
        unfold RMeantOk at hcall
        have hsn := cnt_snoc (r := r) (c := c) hq
        generalize hasS r c (.mk kq nq lq) = B at *
        generalize cntS r c (l.take j) = CJ at *
        repeat' (first | refine o1 ?_ | refine o2 ?_ | refine k1 ?_ | refine k2 ?_ | refine k3 ?_ | refine k4 ?_ | refine k6 ?_ | refine And.intro ?_ ?_ | refine o3 ?_ | refine o4 ?_ | (intro h; first | exact Bool.noConfusion h | exact nz _ h | exact nl h | (simp at h; done) | (simp at h; first | (exfalso; omega) | skip) | skip) | exact (by kernel_rfl : drawOk _ _ = true) | refine eqv_len_map ?_ | refine eqv_wrap (by omega) (by omega) ?_ | refine ⟨_, _, (by first | rfl | assumption), at_map (by assumption), ?_⟩ | (change vcFunD _ _ _ _ _; refine callD_eq rfl (by repeat' (first | trivial | refine And.intro ?_ ?_ | (show 0 + _ ≤ List.length _; simp))) ALeL.refl (hcall) rfl ?_) | fail)
        · refine ⟨j + 1, by omega, by omega, ?_⟩
          rw [hsn, (by assumption : B = true), if_pos rfl, Int.natCast_add]
          exact back [0, 1, 2] rfl rfl ⟨rfl, rfl, rfl, trivial⟩ (by repeat' (first | exact trivial | exact rfl | refine And.intro ?_ ?_))
        · refine ⟨j + 1, by omega, by omega, ?_⟩
          rw [hsn, (by assumption : B = false), if_neg (by simp), Nat.add_zero]
          exact back [0, 1, 2] rfl rfl ⟨rfl, rfl, rfl, trivial⟩ (by repeat' (first | exact trivial | exact rfl | refine And.intro ?_ ?_))
      obtain rfl : j = l.length := by omega
      rw [List.take_length] at *
      generalize cntS r c l = CJ at *
      repeat' (first | refine o1 ?_ | refine o2 ?_ | refine k1 ?_ | refine k2 ?_ | refine k3 ?_ | refine k4 ?_ | refine k6 ?_ | refine k7 ?_ | refine k8 ?_ | refine And.intro ?_ ?_ | (intro h; first | exact Bool.noConfusion h | exact nz _ h | exact nl h | (simp at h; done) | (simp at h; first | (exfalso; omega) | skip) | skip) | (change retOk _ _ _ _; refine ret_pure rfl trivial ?_) | refine eqv_len_map ?_ | fail)
      all_goals
        refine congrArg vbool (Bool.eq_iff_iff.2 ?_)
        simp [*] <;> omega
    · rw [has_leaf (by unfold headP at hh; omega)]
      have hi5 := c_rindexR r 5 n hr.lens
      rw [indexR5] at hi5
      have h3 := c_has c.staff n (hr.cls c hcm).1
      have h4 := c_has c.feats n (hr.cls c hcm).2
      have hcur := fun h => curC_no (r := r) (s := n) h
      unfold leafB
      by_cases h0 : idxU r.curris n < 0
      · rw [curC_no h0]
        generalize idxU r.curris n = X at *
        refine acall_of tok mixed 106 rfl (fn := Tryz.f37) (c := Tryz.f37.body.getD .skip) (by kernel_rfl) (by kernel_rfl) (by kernel_rfl) rfl 0 rfl ?_
        repeat' (first | refine o1 ?_ | refine o2 ?_ | refine k1 ?_ | refine k2 ?_ | refine k3 ?_ | refine k4 ?_ | refine k6 ?_ | refine k7 ?_ | refine And.intro ?_ ?_ | refine o3 ?_ | refine o4 ?_ | (intro h; first | exact Bool.noConfusion h | exact nz _ h | exact nl h | (simp at h; done) | (simp at h; first | (exfalso; omega) | skip) | skip) | (change retOk _ _ _ _; refine ret_pure rfl trivial ?_) | exact (by kernel_rfl : drawOk _ _ = true) | refine ⟨_, _, (by first | rfl | assumption), at_map (by assumption), ?_⟩ | (change vcFun _ _ _ _ _; refine call_eq rfl (by repeat' (first | trivial | refine And.intro ?_ ?_ | (show 0 + _ ≤ List.length _; simp))) ALeL.refl (hi5) rfl ?_) | (change vcFun _ _ _ _ _; refine call_eq rfl (by repeat' (first | trivial | refine And.intro ?_ ?_ | (show 0 + _ ≤ List.length _; simp))) ALeL.refl (h3) rfl ?_) | (change vcFun _ _ _ _ _; refine call_eq rfl (by repeat' (first | trivial | refine And.intro ?_ ?_ | (show 0 + _ ≤ List.length _; simp))) ALeL.refl (h4) rfl ?_) | fail)
        all_goals
          first
            | (refine congrArg vbool ?_; simp [*]; done)
            | (exfalso; unfold headP at hh; omega)
      · obtain ⟨j, x, e, hx, -⟩ := idxB_in (p := fun y : Curri => pB (y.code = n)) (l := r.curris) (by unfold idxU at h0; omega)
        have e : idxU r.curris n = j := e
        rw [curC_at e hx]
        rw [e] at hi5
        have h5 := c_has x.courses c.course (hr.cur x (List.mem_of_getElem? hx))
        refine acall_of tok mixed 106 rfl (fn := Tryz.f37) (c := Tryz.f37.body.getD .skip) (by kernel_rfl) (by kernel_rfl) (by kernel_rfl) rfl 0 rfl ?_
        repeat' (first | refine o1 ?_ | refine o2 ?_ | refine k1 ?_ | refine k2 ?_ | refine k3 ?_ | refine k4 ?_ | refine k6 ?_ | refine k7 ?_ | refine And.intro ?_ ?_ | refine o3 ?_ | refine o4 ?_ | (intro h; first | exact Bool.noConfusion h | exact nz _ h | exact nl h | (simp at h; done) | (simp at h; first | (exfalso; omega) | skip) | skip) | (change retOk _ _ _ _; refine ret_pure rfl trivial ?_) | exact (by kernel_rfl : drawOk _ _ = true) | refine ⟨_, _, (by first | rfl | assumption), at_map (by assumption), ?_⟩ | (change vcFun _ _ _ _ _; refine call_eq rfl (by repeat' (first | trivial | refine And.intro ?_ ?_ | (show 0 + _ ≤ List.length _; simp))) ALeL.refl (hi5) rfl ?_) | (change vcFun _ _ _ _ _; refine call_eq rfl (by repeat' (first | trivial | refine And.intro ?_ ?_ | (show 0 + _ ≤ List.length _; simp))) ALeL.refl (h3) rfl ?_) | (change vcFun _ _ _ _ _; refine call_eq rfl (by repeat' (first | trivial | refine And.intro ?_ ?_ | (show 0 + _ ≤ List.length _; simp))) ALeL.refl (h4) rfl ?_) | (change vcFunD _ _ _ _ _; refine callD_eq rfl (by repeat' (first | trivial | refine And.intro ?_ ?_ | (show 0 + _ ≤ List.length _; simp))) ALeL.refl (h5) rfl ?_) | fail)
        all_goals
          first
            | (refine congrArg vbool ?_; simp [*]; done)
            | (exfalso; unfold headP at hh; omega)
def RKnownOk (r : Reg) (s : Sel) : Prop := PCall Tryz.prog 36 [ag r.cells, ag s.row] (fun a => a = vbool (knownS r s))
theorem leafK2 {r : Reg} {n : Str} : leafK r 2 n = decide (idxC r.classes n ≥ 0) := by
  unfold leafK idxC
  rw [if_neg (by decide), if_neg (by decide), idxB_any]
  have e : (fun y : Class => pB (y.code = n)) = leafB r 2 n := by
    funext y
    unfold leafB
    rw [if_neg (by decide), if_pos rfl]
    exact (pB_eq sEq_iff).symm
  rw [e]; rfl
theorem c_rknown (r : Reg) (hr : RegS r) (hf : ∀ x ∈ r.rooms, x.feats.length ≤ 100000) : ∀ (s : Sel) (hs : SelL s) (hb : soundB s = true), RKnownOk r s := by
  intro s hs
  induction hs with
  | mk hl hk ih =>
    rename_i k n l
    intro hb
    have hb0 := hb
    rw [sound_mk, Bool.and_eq_true] at hb
    obtain ⟨hb1, hb2⟩ := hb
    obtain ⟨hh, hkp⟩ := form_iff.1 hb2
    have hkid : ∀ q ∈ l, RKnownOk r q := fun q hq => ih q hq (List.all_eq_true.1 hb1 q hq)
    have hmt := fun (i : Nat) (c : Class) (hc : r.classes[i]? = some c) => c_rmeant r i c hr hc (.mk k n l) (.mk hl hk) hb0
    have hi5 := c_rindexR r 5 n hr.lens
    have hi6 := c_rindexR r 3 n hr.lens
    have hi4 := c_rindexR r 4 n hr.lens
    have hcn := hr.lens.classes
    have hrn := hr.lens.rooms
    rw [indexR5] at hi5
    rw [indexR3] at hi6
    rw [indexR4] at hi4
    unfold RKnownOk
    rw [row_mk] at *
    refine acall_of tok mixed 82 rfl (fn := Tryz.f36) (c := Tryz.f36.body.getD .skip) (by kernel_rfl) (by kernel_rfl) (by kernel_rfl) rfl 0 rfl ?_
    repeat' (first | refine o1 ?_ | refine o2 ?_ | refine k1 ?_ | refine k2 ?_ | refine k4 ?_ | fail)
    refine loop_in (fun j : Nat => [(5, vint .i64 j)]) (fun _ => [some ⟨37, 14, false, .box (pvs r.cells)⟩, some ⟨52, 3, false, .box (pvs [ei k, es n, .sl 3 (l.map Sel.row)])⟩]) (fun j => j ≤ l.length ∧ ∀ i, i < j → ∀ q, l[i]? = some q → knownS r q = true) (fun j => l.length - j) 0 ⟨Nat.zero_le _, fun i hi => by omega⟩ ⟨?_, ?_⟩
    · exact back [0, 1] rfl rfl ⟨rfl, rfl, trivial⟩ (by repeat' (first | exact trivial | exact rfl | refine And.intro ?_ ?_))
    intro j ⟨hj, hall⟩
    rcases Nat.lt_or_ge j l.length with hlt | hge
    · obtain ⟨⟨kq, nq, lq⟩, hq⟩ := getE hlt
      have hcall := hkid _ (List.mem_of_getElem? hq)
      unfold RKnownOk at hcall
      generalize hB : knownS r (.mk kq nq lq) = B at *
      repeat' (first | refine o1 ?_ | refine o2 ?_ | refine k1 ?_ | refine k2 ?_ | refine k3 ?_ | refine k4 ?_ | refine k6 ?_ | refine k7 ?_ | refine And.intro ?_ ?_ | refine o3 ?_ | refine o4 ?_ | (intro h; first | exact Bool.noConfusion h | exact nz _ h | exact nl h | (simp at h; done) | (simp at h; first | (exfalso; omega) | skip) | skip) | (change retOk _ _ _ _; refine ret_pure rfl trivial ?_) | exact (by kernel_rfl : drawOk _ _ = true) | refine eqv_len_map ?_ | refine eqv_wrap (by omega) (by omega) ?_ | refine ⟨_, _, (by first | rfl | assumption), at_map (by assumption), ?_⟩ | (change vcFunD _ _ _ _ _; refine callD_eq rfl (by repeat' (first | trivial | refine And.intro ?_ ?_ | (show 0 + _ ≤ List.length _; simp))) ALeL.refl (hcall) rfl ?_) | fail)
      · refine congrArg vbool ?_
        have hm := List.mem_of_getElem? hq
        have hnl : l.length ≠ 0 := by omega
        have hk8 : ¬ namedP k := fun hn => by
          unfold namedP at hn; unfold kidsP at hkp
          rw [if_neg (by omega), if_neg (by omega)] at hkp
          exact hnl hkp
        rw [known_all hk8]
        exact (List.all_eq_false.2 ⟨_, hm, by rw [hB]; simp [*]⟩).symm
      · exact ⟨j + 1, ⟨by omega, all_lt_succ hall fun y hy => by rw [hq] at hy; cases hy; rw [hB]; assumption⟩, by omega, back [0, 1] rfl rfl ⟨rfl, rfl, trivial⟩ (by repeat' (first | exact trivial | exact rfl | refine And.intro ?_ ?_))⟩
    obtain rfl : j = l.length := by omega
    have hal : l.all (knownS r) = true := List.all_eq_true.2 fun q hm => by
      obtain ⟨j, hj⟩ := List.getElem?_of_mem hm
      exact hall j (List.getElem?_eq_some_iff.1 hj).1 q hj
    have hleaf : ∀ c, (2 ≤ k ∧ k ≤ 7) → hasS r c (.mk k n l) = leafB r k n c := fun c h => has_leaf (by omega)
    have hlk : (2 ≤ k ∧ k ≤ 7) → knownS r (.mk k n l) = leafK r k n := fun h => known_leaf h
    have h3 : (k = 3 ∨ k = 4 ∨ k = 7) → leafK r k n = ((decide (k = 7) && r.rooms.any fun x => pB (n ∈ x.feats)) || r.classes.any (leafB r k n)) := fun h => by
      unfold leafK; rw [if_neg (by omega), if_neg (by omega)]
    repeat' (first | refine o1 ?_ | refine o2 ?_ | refine k1 ?_ | refine k2 ?_ | refine k3 ?_ | refine k4 ?_ | refine k6 ?_ | refine k7 ?_ | refine k8 ?_ | refine And.intro ?_ ?_ | (intro h; first | exact Bool.noConfusion h | exact nz _ h | exact nl h | (simp at h; done) | (simp at h; first | (exfalso; omega) | skip) | skip) | (change retOk _ _ _ _; refine ret_pure rfl trivial ?_) | refine eqv_len_map ?_ | (change vcFun _ _ _ _ _; refine call_eq rfl (by repeat' (first | trivial | refine And.intro ?_ ?_ | (show 0 + _ ≤ List.length _; simp))) ALeL.refl (hi5) rfl ?_) | (change vcFun _ _ _ _ _; refine call_eq rfl (by repeat' (first | trivial | refine And.intro ?_ ?_ | (show 0 + _ ≤ List.length _; simp))) ALeL.refl (hi6) rfl ?_) | (change vcFun _ _ _ _ _; refine call_eq rfl (by repeat' (first | trivial | refine And.intro ?_ ?_ | (show 0 + _ ≤ List.length _; simp))) ALeL.refl (hi4) rfl ?_) | fail)
    all_goals first
      | (refine congrArg vbool ?_; rw [hlk (by omega), (by assumption : k = 2), leafK2]; done)
      | (refine congrArg vbool ?_; rw [hlk (by omega), (by assumption : k = 5)]; rfl)
      | (refine congrArg vbool ?_; rw [hlk (by omega), (by assumption : k = 6)]; rfl)
      | (refine congrArg vbool ?_; rw [known_all (by unfold namedP; omega), hal]; done)
      | skip
    all_goals
      have hk347 : k = 3 ∨ k = 4 ∨ k = 7 := by omega
      rw [hlk (by omega), h3 hk347]
      refine loop_in (fun j : Nat => [(6, vint .i64 j)]) (fun _ => [some ⟨37, 14, false, .box (pvs r.cells)⟩, some ⟨52, 3, false, .box (pvs [ei k, es n, .sl 3 (l.map Sel.row)])⟩]) (fun j => j ≤ r.classes.length ∧ ∀ i, i < j → ∀ c, r.classes[i]? = some c → leafB r k n c = false) (fun j => r.classes.length - j) 0 ⟨Nat.zero_le _, fun i hi => by omega⟩ ⟨?_, ?_⟩
      · exact back [0, 1] rfl rfl ⟨rfl, rfl, trivial⟩ (by repeat' (first | exact trivial | exact rfl | refine And.intro ?_ ?_))
      intro j ⟨hj, hcl⟩
      rcases Nat.lt_or_ge j r.classes.length with hlt | hge
      · obtain ⟨c, hc⟩ := getE hlt
        have hcall := hmt j c hc
        unfold RMeantOk at hcall
        rw [hleaf c (by omega), row_mk] at hcall
        generalize hB : leafB r k n c = B at *
        repeat' (first | refine o1 ?_ | refine o2 ?_ | refine k1 ?_ | refine k2 ?_ | refine k3 ?_ | refine k4 ?_ | refine k6 ?_ | refine k7 ?_ | refine And.intro ?_ ?_ | (intro h; first | exact Bool.noConfusion h | exact nz _ h | exact nl h | (simp at h; done) | (simp at h; first | (exfalso; omega) | skip) | skip) | (change retOk _ _ _ _; refine ret_pure rfl trivial ?_) | refine eqv_len_map ?_ | refine eqv_wrap (by omega) (by omega) ?_ | (change vcFun _ _ _ _ _; refine call_eq rfl (by repeat' (first | trivial | refine And.intro ?_ ?_ | (show 0 + _ ≤ List.length _; simp))) ALeL.refl (hcall) rfl ?_) | fail)
        · refine congrArg vbool ?_
          rw [List.any_eq_true.2 ⟨c, List.mem_of_getElem? hc, by rw [hB]; assumption⟩, Bool.or_true]
        · exact ⟨j + 1, ⟨by omega, all_lt_succ hcl fun y hy => by rw [hc] at hy; cases hy; rw [hB]; assumption⟩, by omega, back [0, 1] rfl rfl ⟨rfl, rfl, trivial⟩ (by repeat' (first | exact trivial | exact rfl | refine And.intro ?_ ?_))⟩
      obtain rfl : j = r.classes.length := by omega
      have hca : r.classes.any (leafB r k n) = false := List.any_eq_false.2 fun c hm => by
        obtain ⟨j, hj⟩ := List.getElem?_of_mem hm
        rw [hcl j (List.getElem?_eq_some_iff.1 hj).1 c hj]; simp
      rw [hca, Bool.or_false]
      repeat' (first | refine o1 ?_ | refine o2 ?_ | refine k1 ?_ | refine k2 ?_ | refine k3 ?_ | refine k4 ?_ | refine k8 ?_ | refine And.intro ?_ ?_ | (intro h; first | exact Bool.noConfusion h | exact nz _ h | exact nl h | (simp at h; done) | (simp at h; first | (exfalso; omega) | skip) | skip) | refine eqv_len_map ?_ | fail)
      refine loop_in (fun j : Nat => [(7, vint .i64 j)]) (fun _ => [some ⟨37, 14, false, .box (pvs r.cells)⟩, some ⟨52, 3, false, .box (pvs [ei k, es n, .sl 3 (l.map Sel.row)])⟩]) (fun j => j ≤ r.rooms.length ∧ ∀ i, i < j → ∀ x, r.rooms[i]? = some x → pB (n ∈ x.feats) = false) (fun j => r.rooms.length - j) 0 ⟨Nat.zero_le _, fun i hi => by omega⟩ ⟨?_, ?_⟩
      · exact back [0, 1] rfl rfl ⟨rfl, rfl, trivial⟩ (by repeat' (first | exact trivial | exact rfl | refine And.intro ?_ ?_))
      intro j ⟨hj, hrl⟩
      have hra : ¬ j < r.rooms.length → (r.rooms.any fun x => pB (n ∈ x.feats)) = false := fun hge => List.any_eq_false.2 fun c hm => by
        obtain ⟨i, hi⟩ := List.getElem?_of_mem hm
        rw [hrl i (by have := (List.getElem?_eq_some_iff.1 hi).1; omega) c hi]; simp
      rcases Nat.lt_or_ge j r.rooms.length with hlt | hge
      · obtain ⟨x, hx⟩ := getE hlt
        have hcall := c_has x.feats n (hf x (List.mem_of_getElem? hx))
        repeat' (first | refine o1 ?_ | refine o2 ?_ | refine k1 ?_ | refine k2 ?_ | refine k3 ?_ | refine k4 ?_ | refine k6 ?_ | refine k7 ?_ | refine k8 ?_ | refine And.intro ?_ ?_ | refine o3 ?_ | refine o4 ?_ | (intro h; first | exact Bool.noConfusion h | exact nz _ h | exact nl h | (simp at h; done) | (simp at h; first | (exfalso; omega) | skip) | skip) | (change retOk _ _ _ _; refine ret_pure rfl trivial ?_) | exact (by kernel_rfl : drawOk _ _ = true) | refine eqv_len_map ?_ | refine eqv_wrap (by omega) (by omega) ?_ | refine ⟨_, _, (by first | rfl | assumption), at_map (by assumption), ?_⟩ | (change vcFunD _ _ _ _ _; refine callD_eq rfl (by repeat' (first | trivial | refine And.intro ?_ ?_ | (show 0 + _ ≤ List.length _; simp))) ALeL.refl (hcall) rfl ?_) | fail)
        all_goals first
          | (refine congrArg vbool ?_; rw [List.any_eq_true.2 ⟨x, List.mem_of_getElem? hx, pB_t (by assumption)⟩, Bool.and_true]; simp [*]; done)
          | exact ⟨j + 1, ⟨by omega, all_lt_succ hrl fun y hy => by rw [hx] at hy; cases hy; exact pB_f (by assumption)⟩, by omega, back [0, 1] rfl rfl ⟨rfl, rfl, trivial⟩ (by repeat' (first | exact trivial | exact rfl | refine And.intro ?_ ?_))⟩
          | (refine congrArg vbool ?_; simp [*]; done)
      · rw [hra (by omega), Bool.and_false]
        repeat' (first | refine o1 ?_ | refine o2 ?_ | refine k1 ?_ | refine k2 ?_ | refine k3 ?_ | refine k7 ?_ | refine k8 ?_ | refine And.intro ?_ ?_ | (intro h; first | exact Bool.noConfusion h | exact nz _ h | exact nl h | (simp at h; done) | (simp at h; first | (exfalso; omega) | skip) | skip) | (change retOk _ _ _ _; refine ret_pure rfl trivial ?_) | refine eqv_len_map ?_ | fail)
        all_goals rfl
end Go.Proofs.YtkbaecjnhmbeeaaGreat.Cw
/-
  Selections: the classes that are members.
-/
namespace Go.Proofs.YtkbaecjnhmbeeaaGreat.Cw
open Go.Cw Go.Proofs
set_option linter.unusedVariables false
set_option maxRecDepth 100000
set_option maxHeartbeats 4000000
def eb (b : Bool) : PV := .val (.bool b)
def bRow (b : Bool) : List PV := [eb b]
noncomputable def memB (r : Reg) (s : Sel) : List Bool := r.classes.map fun c => hasS r c s
noncomputable def selE (r : Reg) (s : Sel) : Int := if pB (selP s) then (if knownS r s then 0 else 12) else 4
noncomputable def memV (r : Reg) (s : Sel) : List Bool := if selE r s = 0 then memB r s else []
theorem selE_form {r : Reg} {s : Sel} (h : ¬ selP s) : selE r s = 4 ∧ memV r s = [] := by
  have e : selE r s = 4 := by unfold selE; rw [pB_f h]; rfl
  exact ⟨e, by unfold memV; rw [if_neg (by omega)]⟩
theorem selE_unk {r : Reg} {s : Sel} (h : selP s) (h2 : knownS r s = false) : selE r s = 12 ∧ memV r s = [] := by
  have e : selE r s = 12 := by unfold selE; rw [pB_t h, h2]; rfl
  exact ⟨e, by unfold memV; rw [if_neg (by omega)]⟩
theorem selE_ok {r : Reg} {s : Sel} (h : selP s) (h2 : knownS r s = true) : selE r s = 0 ∧ memV r s = memB r s := by
  have e : selE r s = 0 := by unfold selE; rw [pB_t h, h2]; rfl
  exact ⟨e, by unfold memV; rw [if_pos e]⟩
noncomputable def memI (r : Reg) (s : Sel) (i : Nat) : List Bool := ((r.classes.take i).map fun c => hasS r c s) ++ List.replicate (r.classes.length - i) false
theorem memI_zero {r : Reg} {s : Sel} : memI r s 0 = List.replicate r.classes.length false := by unfold memI; simp
theorem memI_all {r : Reg} {s : Sel} : memI r s r.classes.length = memB r s := by unfold memI memB; simp
theorem memI_len {r : Reg} {s : Sel} {i : Nat} (h : i ≤ r.classes.length) : (memI r s i).length = r.classes.length := by unfold memI; simp; omega
theorem memI_succ {r : Reg} {s : Sel} {i : Nat} {c : Class} (h : r.classes[i]? = some c) : (memI r s i).set i (hasS r c s) = memI r s (i + 1) := by
  have hi := (List.getElem?_eq_some_iff.1 h).1
  unfold memI
  rw [take_snoc h, List.map_append, List.set_append_right _ _ (by simp; omega)]
  rw [show i - ((r.classes.take i).map fun c => hasS r c s).length = 0 by simp; omega]
  rw [show r.classes.length - i = (r.classes.length - (i + 1)) + 1 by omega, List.replicate_succ]
  simp
theorem c_members0 (r : Reg) (s : Sel) (hr : RegS r) (hf : ∀ x ∈ r.rooms, x.feats.length ≤ 100000) (hs : SelL s) : PCall Tryz.prog 34 [ag r.cells, ag s.row] (fun a => Leq a (.tup [.pv (.sl 1 ((memV r s).map bRow)), vint .i64 (selE r s)])) := by
  have hcn := hr.lens.classes
  have h1 := c_selection s hs
  by_cases hp : selP s
  · rw [pB_t hp] at h1
    have hb := hp.2.2
    have h2 := c_knownS r hr hf s hs hb
    unfold KnownOk at h2
    cases hk : knownS r s
    · obtain ⟨e1, e2⟩ := selE_unk hp hk
      rw [e1, e2]
      rw [hk] at h2
      obtain ⟨k, n, l⟩ := s
      rw [row_mk] at *
      refine acall_of tok mixed 39 rfl (fn := Tryz.f34) (c := Tryz.f34.body.getD .skip) (by kernel_rfl) (by kernel_rfl) (by kernel_rfl) rfl 0 rfl ?_
      repeat' (first | refine o1 ?_ | refine o2 ?_ | refine k1 ?_ | refine k2 ?_ | refine k3 ?_ | refine k4 ?_ | refine k7 ?_ | refine And.intro ?_ ?_ | (intro h; first | exact Bool.noConfusion h | exact nz _ h | exact nl h | (simp at h; done) | (simp at h; first | (exfalso; omega) | skip) | skip) | (change retOk _ _ _ _; refine ret_pure rfl trivial ?_) | (change vcFun _ _ _ _ _; refine call_eq rfl (by repeat' (first | trivial | refine And.intro ?_ ?_ | (show 0 + _ ≤ List.length _; simp))) ALeL.refl (h1) rfl ?_) | (change vcFun _ _ _ _ _; refine call_eq rfl (by repeat' (first | trivial | refine And.intro ?_ ?_ | (show 0 + _ ≤ List.length _; simp))) ALeL.refl (h2) rfl ?_) | fail)
      all_goals first
        | exact ⟨ALe.tup ⟨ALe.pv PLe.nil, ALe.refl, trivial⟩⟩
    · obtain ⟨e1, e2⟩ := selE_ok hp hk
      rw [e1, e2]
      rw [hk] at h2
      have h3 := fun (c : Class) (hc : c ∈ r.classes) => c_hasS r c hr hc s hs hb
      have hz := memI_zero (r := r) (s := s)
      have ha := memI_all (r := r) (s := s)
      have hsc := fun (i : Nat) (c : Class) (h : r.classes[i]? = some c) => memI_succ (s := s) h
      have hln := fun (i : Nat) (h : i ≤ r.classes.length) => memI_len (s := s) h
      unfold HasOk at h3
      rw [← ha]
      generalize memI r s = MI at *
      generalize hHS : (fun c => hasS r c s) = HS at *
      have h3B : ∀ c ∈ r.classes, PCall Tryz.prog 103 [ag r.cells, ag s.row, ag c.row] (fun a => a = vbool (HS c)) := fun c hc => by rw [← hHS]; exact h3 c hc
      clear h3
      have hscB : ∀ (i : Nat) (c : Class), r.classes[i]? = some c → (MI i).set i (HS c) = MI (i + 1) := fun i c h => by rw [← hHS]; exact hsc i c h
      clear hsc
      obtain ⟨k, n, l⟩ := s
      rw [row_mk] at *
      refine acall_of tok mixed 39 rfl (fn := Tryz.f34) (c := Tryz.f34.body.getD .skip) (by kernel_rfl) (by kernel_rfl) (by kernel_rfl) rfl 0 rfl ?_
      repeat' (first | (refine ⟨rfl, r.classes.length, r.classes.length, rfl, rfl, Nat.le_refl _, by omega, by omega, eqv_to ((MI 0).map bRow) (by rw [hz]; simp [bRow, eb]) ?_⟩) | refine o1 ?_ | refine o2 ?_ | refine k1 ?_ | refine k2 ?_ | refine k3 ?_ | refine k4 ?_ | refine k6 ?_ | refine And.intro ?_ ?_ | (intro h; first | exact Bool.noConfusion h | exact nz _ h | exact nl h | (simp at h; done) | (simp at h; first | (exfalso; omega) | skip) | skip) | refine eqv_len_map ?_ | (change vcFun _ _ _ _ _; refine call_eq rfl (by repeat' (first | trivial | refine And.intro ?_ ?_ | (show 0 + _ ≤ List.length _; simp))) ALeL.refl (h1) rfl ?_) | (change vcFun _ _ _ _ _; refine call_eq rfl (by repeat' (first | trivial | refine And.intro ?_ ?_ | (show 0 + _ ≤ List.length _; simp))) ALeL.refl (h2) rfl ?_) | fail)
      refine loop_in (fun i : Nat => [(25, vint .i64 i)]) (fun i => [some ⟨37, 14, false, .box (pvs r.cells)⟩, some ⟨52, 3, false, .box (pvs [ei k, es n, .sl 3 (l.map Sel.row)])⟩, some ⟨4, 1, false, .p ((MI i).map bRow)⟩]) (fun i => i ≤ r.classes.length) (fun i => r.classes.length - i) 0 (Nat.zero_le _) ⟨?_, ?_⟩
      · exact back [0, 1, 2] rfl rfl ⟨rfl, rfl, rfl, trivial⟩ (by repeat' (first | exact trivial | exact rfl | refine And.intro ?_ ?_))
      intro i hi
      have hlen := hln i hi
      rcases Nat.lt_or_ge i r.classes.length with hlt | hge
      · obtain ⟨c, hc⟩ := getE hlt
        obtain ⟨b, hb⟩ := getE (l := MI i) (i := i) (by omega)
        have hcall := h3B c (List.mem_of_getElem? hc)
        have hst := hscB i c hc
        generalize HS c = B at *
        repeat' (first | refine o1 ?_ | refine o2 ?_ | refine k1 ?_ | refine k2 ?_ | refine k3 ?_ | refine k4 ?_ | refine k6 ?_ | refine And.intro ?_ ?_ | (intro h; first | exact Bool.noConfusion h | exact nz _ h | exact nl h | (simp at h; done) | (simp at h; first | (exfalso; omega) | skip) | skip) | exact Nat.le_of_ble_eq_true rfl | exact (by kernel_rfl : drawOk _ _ = true) | refine eqv_zero ?_ | refine eqv_wrap (by omega) (by omega) ?_ | refine eqv_to _ (set_map rfl rfl) ?_ | refine ⟨_, _, (by first | rfl | assumption), at_map (by assumption), ?_⟩ | refine ⟨_, at_map (by assumption), ?_⟩ | refine idx_ms _ (by first | rfl | assumption) (by first | assumption | omega) ?_ | (change vcFun _ _ _ _ _; refine call_eq rfl (by repeat' (first | trivial | refine And.intro ?_ ?_ | (show 0 + _ ≤ List.length _; simp))) ALeL.refl (hcall) rfl ?_) | fail)
        refine ⟨i + 1, by omega, by omega, ?_⟩
        rw [← hst]
        exact back [0, 1, 2] rfl rfl ⟨rfl, rfl, rfl, trivial⟩ (by repeat' (first | exact trivial | exact rfl | refine And.intro ?_ ?_))
      obtain rfl : i = r.classes.length := by omega
      repeat' (first | refine o1 ?_ | refine o2 ?_ | refine k1 ?_ | refine k2 ?_ | refine k3 ?_ | refine k7 ?_ | refine k8 ?_ | refine And.intro ?_ ?_ | (intro h; first | exact Bool.noConfusion h | exact nz _ h | exact nl h | (simp at h; done) | (simp at h; first | (exfalso; omega) | skip) | skip) | fail)
      change retOk _ _ _ _
      refine ret_pure rfl ?_ ⟨ALe.tup ⟨ALe.pv (whole_le (by omega)), ALe.refl, trivial⟩⟩
      repeat' (first | exact True.intro | refine And.intro ?_ ?_ | (show 0 + _ ≤ List.length _; rw [List.length_map, hlen]; omega))
  · rw [pB_f hp] at h1
    obtain ⟨e1, e2⟩ := selE_form (r := r) hp
    rw [e1, e2]
    obtain ⟨k, n, l⟩ := s
    rw [row_mk] at *
    refine acall_of tok mixed 39 rfl (fn := Tryz.f34) (c := Tryz.f34.body.getD .skip) (by kernel_rfl) (by kernel_rfl) (by kernel_rfl) rfl 0 rfl ?_
    repeat' (first | refine o1 ?_ | refine o2 ?_ | refine k1 ?_ | refine k2 ?_ | refine k3 ?_ | refine k4 ?_ | refine k7 ?_ | refine And.intro ?_ ?_ | (intro h; first | exact Bool.noConfusion h | exact nz _ h | exact nl h | (simp at h; done) | (simp at h; first | (exfalso; omega) | skip) | skip) | (change retOk _ _ _ _; refine ret_pure rfl trivial ?_) | (change vcFun _ _ _ _ _; refine call_eq rfl (by repeat' (first | trivial | refine And.intro ?_ ?_ | (show 0 + _ ≤ List.length _; simp))) ALeL.refl (h1) rfl ?_) | fail)
    all_goals first
      | exact ⟨ALe.tup ⟨ALe.pv PLe.nil, ALe.refl, trivial⟩⟩
theorem c_members (r : Reg) (s : Sel) (hr : RegS r) (hf : ∀ x ∈ r.rooms, x.feats.length ≤ 100000) (hs : SelL s) : PCall Tryz.prog 34 [ag r.cells, ag s.row] (fun a => a = .tup [.pv (.sl 1 ((memV r s).map bRow)), vint .i64 (selE r s)]) :=
  (c_members0 r s hr hf hs).weak fun r h => ⟨_, h.le, rfl⟩
-- The reference's Classes.
noncomputable def selF (r : Reg) (s : Sel) : Nat → Class → Option Int := fun i c => if hasS r c s then some (i : Int) else none
noncomputable def clsV (r : Reg) (s : Sel) (i : Nat) : List Int := upto r.classes (selF r s) i
noncomputable def clsE0 (r : Reg) (s : Sel) : Int := if regE r = 0 then selE r s else 1
noncomputable def clsL (r : Reg) (s : Sel) : List Int := if clsE0 r s = 0 then clsV r s r.classes.length else []
theorem c_rselC0 (r : Reg) (s : Sel) (hs : SelL s) (hr : regE r = 0 → RegS r ∧ ∀ x ∈ r.rooms, x.feats.length ≤ 100000) : PCall Tryz.prog 12 [ag r.cells, ag s.row] (fun a => Leq a (.tup [.pv (encInts (clsL r s)), vint .i64 (clsE0 r s)])) := by
  have h0 := c_rcheckR r
  have h1 := c_rSound s hs
  unfold clsL clsE0
  by_cases h : regE r = 0
  · obtain ⟨hr, hf⟩ := hr h
    rw [if_pos h]
    rw [h] at h0
    have hcn := hr.lens.classes
    by_cases hp : selP s
    · rw [pB_t hp] at h1
      have hb := hp.2.2
      have h2 := c_rknown r hr hf s hs hb
      unfold RKnownOk at h2
      cases hk : knownS r s
      · obtain ⟨e1, e2⟩ := selE_unk hp hk
        rw [e1, if_neg (by omega)]
        rw [hk] at h2
        obtain ⟨k, n, l⟩ := s
        rw [row_mk] at *
        refine acall_of tok mixed 34 rfl (fn := Tryz.f12) (c := Tryz.f12.body.getD .skip) (by kernel_rfl) (by kernel_rfl) (by kernel_rfl) rfl 0 rfl ?_
        repeat' (first | refine o1 ?_ | refine o2 ?_ | refine k1 ?_ | refine k2 ?_ | refine k3 ?_ | refine k6 ?_ | refine k7 ?_ | refine And.intro ?_ ?_ | (intro h; first | exact Bool.noConfusion h | exact nz _ h | exact nl h | (simp at h; done) | (simp at h; first | (exfalso; omega) | skip) | skip) | (change retOk _ _ _ _; refine ret_pure rfl trivial ?_) | (change vcFun _ _ _ _ _; refine call_eq rfl (by repeat' (first | trivial | refine And.intro ?_ ?_ | (show 0 + _ ≤ List.length _; simp))) ALeL.refl (h0) rfl ?_) | (change vcFun _ _ _ _ _; refine call_eq rfl (by repeat' (first | trivial | refine And.intro ?_ ?_ | (show 0 + _ ≤ List.length _; simp))) ALeL.refl (h1) rfl ?_) | (change vcFun _ _ _ _ _; refine call_eq rfl (by repeat' (first | trivial | refine And.intro ?_ ?_ | (show 0 + _ ≤ List.length _; simp))) ALeL.refl (h2) rfl ?_) | fail)
        all_goals exact ⟨ALe.tup ⟨ALe.pv PLe.nil, ALe.refl, trivial⟩⟩
      · obtain ⟨e1, e2⟩ := selE_ok hp hk
        rw [e1, if_pos rfl]
        rw [hk] at h2
        have h3 := fun (i : Nat) (c : Class) (hc : r.classes[i]? = some c) => c_rmeant r i c hr hc s hs hb
        have hs1 := fun (i : Nat) (c : Class) (hc : r.classes[i]? = some c) (h : hasS r c s = true) => upto_some (f := selF r s) hc (show selF r s i c = some (i : Int) from if_pos h)
        have hs2 := fun (i : Nat) (c : Class) (hc : r.classes[i]? = some c) (h : hasS r c s = false) => upto_none (f := selF r s) hc (show selF r s i c = none from if_neg (by simp [h]))
        have hul := fun i => upto_len (l := r.classes) (f := selF r s) (n := i)
        have huz : upto r.classes (selF r s) 0 = [] := rfl
        unfold clsV
        unfold RMeantOk at h3
        generalize upto r.classes (selF r s) = U at *
        generalize hHS : (fun c => hasS r c s) = HS at *
        have h3B : ∀ (i : Nat) (c : Class), r.classes[i]? = some c → PCall Tryz.prog 37 [ag r.cells, ag s.row, vint .i64 i] (fun a => a = vbool (HS c)) := fun i c hc => by rw [← hHS]; exact h3 i c hc
        have hs1B : ∀ (i : Nat) (c : Class), r.classes[i]? = some c → HS c = true → U (i + 1) = U i ++ [(i : Int)] := fun i c hc h => hs1 i c hc (by rw [← hHS] at h; exact h)
        have hs2B : ∀ (i : Nat) (c : Class), r.classes[i]? = some c → HS c = false → U (i + 1) = U i := fun i c hc h => hs2 i c hc (by rw [← hHS] at h; exact h)
        clear h3 hs1 hs2
        obtain ⟨k, n, l⟩ := s
        rw [row_mk] at *
        refine acall_of tok mixed 34 rfl (fn := Tryz.f12) (c := Tryz.f12.body.getD .skip) (by kernel_rfl) (by kernel_rfl) (by kernel_rfl) rfl 0 rfl ?_
        repeat' (first | refine o1 ?_ | refine o2 ?_ | refine k1 ?_ | refine k2 ?_ | refine k3 ?_ | refine k4 ?_ | refine k6 ?_ | refine And.intro ?_ ?_ | (intro h; first | exact Bool.noConfusion h | exact nz _ h | exact nl h | (simp at h; done) | (simp at h; first | (exfalso; omega) | skip) | skip) | (change vcFun _ _ _ _ _; refine call_eq rfl (by repeat' (first | trivial | refine And.intro ?_ ?_ | (show 0 + _ ≤ List.length _; simp))) ALeL.refl (h0) rfl ?_) | (change vcFun _ _ _ _ _; refine call_eq rfl (by repeat' (first | trivial | refine And.intro ?_ ?_ | (show 0 + _ ≤ List.length _; simp))) ALeL.refl (h1) rfl ?_) | (change vcFun _ _ _ _ _; refine call_eq rfl (by repeat' (first | trivial | refine And.intro ?_ ?_ | (show 0 + _ ≤ List.length _; simp))) ALeL.refl (h2) rfl ?_) | fail)
        refine loop_in (fun i : Nat => [(6, slP 2 1 ((U i).map fun n : Int => [ei n])), (7, vint .i64 i)]) (fun i => [some ⟨37, 14, false, .box (pvs r.cells)⟩, some ⟨52, 3, false, .box (pvs [ei k, es n, .sl 3 (l.map Sel.row)])⟩, obP 3 1 ((U i).map fun n : Int => [ei n])]) (fun i => i ≤ r.classes.length) (fun i => r.classes.length - i) 0 (Nat.zero_le _) ⟨?_, ?_⟩
        · rw [huz]
          exact back [0, 1, 2] rfl rfl (by repeat' (first | exact trivial | exact rfl | refine And.intro ?_ ?_)) (by repeat' (first | exact trivial | exact rfl | refine And.intro ?_ ?_))
        intro i hi
        have hui := hul i
        rcases Nat.lt_or_ge i r.classes.length with hlt | hge
        · obtain ⟨c, hc⟩ := getE hlt
          have hcall := h3B i c hc
          have hs1 := hs1B i c hc
          have hs2 := hs2B i c hc
          generalize HS c = B at *
          repeat' (first | (refine fv_sl ?_) | (refine fh_ob ?_) | ((refine o_app rfl rfl rfl rfl rfl rfl rfl rfl rfl rfl rfl (by rw [List.length_map]; omega) (by rw [List.length_map]; omega) ?_)) | refine o1 ?_ | refine o2 ?_ | refine k1 ?_ | refine k2 ?_ | refine k3 ?_ | refine k4 ?_ | refine k6 ?_ | refine And.intro ?_ ?_ | (intro h; first | exact Bool.noConfusion h | exact nz _ h | exact nl h | (simp at h; done) | (simp at h; first | (exfalso; omega) | skip) | skip) | refine eqv_len_map ?_ | refine eqv_wrap (by omega) (by omega) ?_ | (change vcFun _ _ _ _ _; refine call_eq rfl (by repeat' (first | trivial | refine And.intro ?_ ?_ | (show 0 + _ ≤ List.length _; simp))) ALeL.refl (hcall) rfl ?_) | fail)
          · refine ⟨i + 1, by omega, by omega, ?_⟩
            rw [hs1 (by assumption), map_snoc, sl_app, ob_app]
            exact back [0, 1, 4] rfl rfl (by repeat' (first | exact trivial | exact rfl | refine And.intro ?_ ?_)) (by repeat' (first | exact trivial | exact rfl | refine And.intro ?_ ?_))
          · refine ⟨i + 1, by omega, by omega, ?_⟩
            rw [hs2 (by assumption)]
            exact back [0, 1, 2] rfl rfl (by repeat' (first | exact trivial | exact rfl | refine kept_ob rfl ?_ | refine And.intro ?_ ?_)) (by repeat' (first | exact trivial | exact rfl | exact ren_get rfl | refine And.intro ?_ ?_))
        obtain rfl : i = r.classes.length := by omega
        repeat' (first | (refine fv_sl ?_) | (refine fh_ob ?_) | refine o1 ?_ | refine o2 ?_ | refine k1 ?_ | refine k2 ?_ | refine k3 ?_ | refine k7 ?_ | refine k8 ?_ | refine And.intro ?_ ?_ | (intro h; first | exact Bool.noConfusion h | exact nz _ h | exact nl h | (simp at h; done) | (simp at h; first | (exfalso; omega) | skip) | skip) | refine eqv_len_map ?_ | fail)
        exact ret_sl2 (id := 2) (ty := 3) rfl rfl
    · rw [pB_f hp] at h1
      obtain ⟨e1, e2⟩ := selE_form (r := r) hp
      rw [e1, if_neg (by omega)]
      obtain ⟨k, n, l⟩ := s
      rw [row_mk] at *
      refine acall_of tok mixed 34 rfl (fn := Tryz.f12) (c := Tryz.f12.body.getD .skip) (by kernel_rfl) (by kernel_rfl) (by kernel_rfl) rfl 0 rfl ?_
      repeat' (first | refine o1 ?_ | refine o2 ?_ | refine k1 ?_ | refine k2 ?_ | refine k3 ?_ | refine k6 ?_ | refine k7 ?_ | refine And.intro ?_ ?_ | (intro h; first | exact Bool.noConfusion h | exact nz _ h | exact nl h | (simp at h; done) | (simp at h; first | (exfalso; omega) | skip) | skip) | (change retOk _ _ _ _; refine ret_pure rfl trivial ?_) | (change vcFun _ _ _ _ _; refine call_eq rfl (by repeat' (first | trivial | refine And.intro ?_ ?_ | (show 0 + _ ≤ List.length _; simp))) ALeL.refl (h0) rfl ?_) | (change vcFun _ _ _ _ _; refine call_eq rfl (by repeat' (first | trivial | refine And.intro ?_ ?_ | (show 0 + _ ≤ List.length _; simp))) ALeL.refl (h1) rfl ?_) | fail)
      all_goals exact ⟨ALe.tup ⟨ALe.pv PLe.nil, ALe.refl, trivial⟩⟩
  · rw [if_neg h, if_neg (by omega)]
    generalize regE r = RE at *
    obtain ⟨k, n, l⟩ := s
    rw [row_mk] at *
    refine acall_of tok mixed 34 rfl (fn := Tryz.f12) (c := Tryz.f12.body.getD .skip) (by kernel_rfl) (by kernel_rfl) (by kernel_rfl) rfl 0 rfl ?_
    repeat' (first | refine o1 ?_ | refine o2 ?_ | refine k1 ?_ | refine k2 ?_ | refine k3 ?_ | refine k7 ?_ | refine And.intro ?_ ?_ | (intro h; first | exact Bool.noConfusion h | exact nz _ h | exact nl h | (simp at h; done) | (simp at h; first | (exfalso; omega) | skip) | skip) | (change retOk _ _ _ _; refine ret_pure rfl trivial ?_) | (change vcFun _ _ _ _ _; refine call_eq rfl (by repeat' (first | trivial | refine And.intro ?_ ?_ | (show 0 + _ ≤ List.length _; simp))) ALeL.refl (h0) rfl ?_) | fail)
    all_goals first
      | exact ⟨ALe.tup ⟨ALe.pv PLe.nil, ALe.refl, trivial⟩⟩
      | exact absurd (by assumption) h
theorem c_rselC (r : Reg) (s : Sel) (hs : SelL s) (hr : regE r = 0 → RegS r ∧ ∀ x ∈ r.rooms, x.feats.length ≤ 100000) : PCall Tryz.prog 12 [ag r.cells, ag s.row] (fun a => a = .tup [.pv (encInts (clsL r s)), vint .i64 (clsE0 r s)]) :=
  (c_rselC0 r s hs hr).weak fun r h => ⟨_, h.le, rfl⟩
end Go.Proofs.YtkbaecjnhmbeeaaGreat.Cw
/-
  The law SelectionExact.
-/
namespace Go.Proofs.YtkbaecjnhmbeeaaGreat.Cw
open Go Go.Cw Go.Proofs
set_option linter.unusedVariables false
set_option maxRecDepth 100000
set_option maxHeartbeats 8000000
structure RegO (r : Reg) : Prop where
  s : RegS r
  feats : ∀ x ∈ r.rooms, x.feats.length ≤ 100000
theorem regO {r : Reg} (h : regE r = 0) : RegO r := by
  have z := orI_z (regE_z h).1
  have g3 : roomsE r.rooms r.grid r.term.weeks = 0 := z _ (by simp [partsE])
  have g5 : staffE r.staff r.grid r.term.weeks = 0 := z _ (by simp [partsE])
  have g6 : classesE r.classes r.grid r.term.weeks = 0 := z _ (by simp [partsE])
  have g7 : currisE r.curris = 0 := z _ (by simp [partsE])
  have g8 : reqsE r.reqs = 0 := z _ (by simp [partsE])
  exact ⟨regS_of g3 g5 g6 g7 g8, fun x hx => by have := room_z g3 x hx; omega⟩
theorem selE_cases (r : Reg) (s : Sel) : (selE r s = 0 ∧ memV r s = memB r s) ∨ (selE r s ≠ 0 ∧ memV r s = []) := by
  by_cases hp : selP s
  · cases hk : knownS r s
    · have := selE_unk hp hk; exact .inr ⟨by omega, this.2⟩
    · exact .inl (selE_ok hp hk)
  · have := selE_form (r := r) hp; exact .inr ⟨by omega, this.2⟩
theorem c_pclasses0 (r : Reg) (s : Sel) (hs : SelL s) : PCall Tryz.prog 11 [ag r.cells, ag s.row] (fun a => Leq a (.tup [.pv (encInts (clsL r s)), vint .i64 (clsE0 r s)])) := by
  have h0 := c_check r
  unfold clsL clsE0
  by_cases h : regE r = 0
  · obtain ⟨hr, hf⟩ := regO h
    have hm := c_members r s hr hf hs
    rw [if_pos h]
    rw [h] at h0
    have hcn := hr.lens.classes
    rcases selE_cases r s with ⟨he, hmv⟩ | ⟨he, hmv⟩
    · rw [he, if_pos rfl]
      rw [he, hmv] at hm
      have hs1 := fun (i : Nat) (c : Class) (hc : r.classes[i]? = some c) (h : hasS r c s = true) => upto_some (f := selF r s) hc (show selF r s i c = some (i : Int) from if_pos h)
      have hs2 := fun (i : Nat) (c : Class) (hc : r.classes[i]? = some c) (h : hasS r c s = false) => upto_none (f := selF r s) hc (show selF r s i c = none from if_neg (by simp [h]))
      have hul := fun i => upto_len (l := r.classes) (f := selF r s) (n := i)
      have huz : upto r.classes (selF r s) 0 = [] := rfl
      have hML : (memB r s).length = r.classes.length := List.length_map _
      have hMb : ∀ (i : Nat) (c : Class), r.classes[i]? = some c → (memB r s)[i]? = some (hasS r c s) := fun i c hc => by
        unfold memB; rw [List.getElem?_map, hc]; rfl
      unfold clsV
      generalize upto r.classes (selF r s) = U at *
      have hU1 : ∀ (i : Nat) (b : Bool), (memB r s)[i]? = some b → (b = true → U (i + 1) = U i ++ [(i : Int)]) ∧ (b = false → U (i + 1) = U i) := fun i b hb => by
        have hi := (List.getElem?_eq_some_iff.1 hb).1
        obtain ⟨c, hc⟩ := getE (show i < r.classes.length by omega)
        have e := hMb i c hc
        rw [hb] at e
        injection e with e
        exact ⟨fun h => hs1 i c hc (e ▸ h), fun h => hs2 i c hc (e ▸ h)⟩
      generalize memB r s = MB at *
      clear hs1 hs2 hMb hmv
      obtain ⟨k, n, l⟩ := s
      rw [row_mk] at *
      refine acall_of tok mixed 37 rfl (fn := Tryz.f11) (c := Tryz.f11.body.getD .skip) (by kernel_rfl) (by kernel_rfl) (by kernel_rfl) rfl 0 rfl ?_
      repeat' (first | ((change vcFun _ _ _ _ _; refine call_frz rfl (by repeat' (first | trivial | refine And.intro ?_ ?_ | (show 0 + _ ≤ List.length _; simp))) ALeL.refl hm ?_; rintro _ rfl)) | refine o1 ?_ | refine o2 ?_ | refine k1 ?_ | refine k2 ?_ | refine k3 ?_ | refine k4 ?_ | refine k6 ?_ | refine And.intro ?_ ?_ | (intro h; first | exact Bool.noConfusion h | exact nz _ h | exact nl h | (simp at h; done) | (simp at h; first | (exfalso; omega) | skip) | skip) | refine eqv_len_map ?_ | (change vcFun _ _ _ _ _; refine call_eq rfl (by repeat' (first | trivial | refine And.intro ?_ ?_ | (show 0 + _ ≤ List.length _; simp))) ALeL.refl (h0) rfl ?_) | fail)
      refine loop_for (fun i : Nat => [(8, slP 2 1 ((U i).map fun n : Int => [ei n])), (23, .pv (.sl 1 (MB.map bRow))), (24, vint .i64 MB.length), (25, vint .i64 i)]) (fun i => [some ⟨37, 14, false, .box (pvs r.cells)⟩, some ⟨52, 3, false, .box (pvs [ei k, es n, .sl 3 (l.map Sel.row)])⟩, obP 3 1 ((U i).map fun n : Int => [ei n])]) (fun i => i ≤ MB.length) (fun i => MB.length - i) 0 (Nat.zero_le _) ?_ ?_
      · rw [huz]
        exact back [0, 1, 2] rfl rfl (by repeat' (first | exact trivial | exact rfl | refine And.intro ?_ ?_)) (by repeat' (first | exact trivial | exact rfl | refine And.intro ?_ ?_))
      intro i hi
      have hui := hul i
      rcases Nat.lt_or_ge i MB.length with hlt | hge
      · obtain ⟨b, hb⟩ := getE hlt
        obtain ⟨g1, g2⟩ := hU1 i b hb
        repeat' (first | (refine fv_sl ?_) | (refine fh_ob ?_) | (refine idx_sl (k := i) (at_map hb) rfl ?_) | ((refine o_app rfl rfl rfl rfl rfl rfl rfl rfl rfl rfl rfl (by rw [List.length_map]; omega) (by rw [List.length_map]; omega) ?_)) | refine o1 ?_ | refine o2 ?_ | refine k1 ?_ | refine k2 ?_ | refine k3 ?_ | refine k4 ?_ | refine k6 ?_ | refine And.intro ?_ ?_ | (intro h; first | exact Bool.noConfusion h | exact nz _ h | exact nl h | (simp at h; done) | (simp at h; first | (exfalso; omega) | skip) | skip) | refine eqv_wrap (by omega) (by omega) ?_ | fail)
        all_goals first
          | (refine ⟨i + 1, by omega, by omega, ?_⟩
             rw [g1 (by assumption), map_snoc, sl_app, ob_app]
             exact back [0, 1, 4] rfl rfl (by repeat' (first | exact trivial | exact rfl | refine And.intro ?_ ?_)) (by repeat' (first | exact trivial | exact rfl | refine And.intro ?_ ?_)))
          | (refine ⟨i + 1, by omega, by omega, ?_⟩
             rw [g2 (by assumption)]
             exact back [0, 1, 2] rfl rfl (by repeat' (first | exact trivial | exact rfl | refine kept_ob rfl ?_ | refine And.intro ?_ ?_)) (by repeat' (first | exact trivial | exact rfl | exact ren_get rfl | refine And.intro ?_ ?_)))
      obtain rfl : i = MB.length := by omega
      rw [← hML]
      repeat' (first | (refine fv_sl ?_) | (refine fh_ob ?_) | refine o1 ?_ | refine o2 ?_ | refine k1 ?_ | refine k2 ?_ | refine k3 ?_ | refine k7 ?_ | refine k8 ?_ | refine And.intro ?_ ?_ | (intro h; first | exact Bool.noConfusion h | exact nz _ h | exact nl h | (simp at h; done) | (simp at h; first | (exfalso; omega) | skip) | skip) | fail)
      all_goals first
        | exact ret_sl2 (id := 2) (ty := 3) rfl rfl
    · rw [if_neg he]
      rw [hmv] at hm
      generalize selE r s = E at *
      obtain ⟨k, n, l⟩ := s
      rw [row_mk] at *
      refine acall_of tok mixed 37 rfl (fn := Tryz.f11) (c := Tryz.f11.body.getD .skip) (by kernel_rfl) (by kernel_rfl) (by kernel_rfl) rfl 0 rfl ?_
      repeat' (first | ((change vcFun _ _ _ _ _; refine call_frz rfl (by repeat' (first | trivial | refine And.intro ?_ ?_ | (show 0 + _ ≤ List.length _; simp))) ALeL.refl hm ?_; rintro _ rfl)) | refine o1 ?_ | refine o2 ?_ | refine k1 ?_ | refine k2 ?_ | refine k3 ?_ | refine k6 ?_ | refine k7 ?_ | refine And.intro ?_ ?_ | (intro h; first | exact Bool.noConfusion h | exact nz _ h | exact nl h | (simp at h; done) | (simp at h; first | (exfalso; omega) | skip) | skip) | (change retOk _ _ _ _; refine ret_pure rfl trivial ?_) | (change vcFun _ _ _ _ _; refine call_eq rfl (by repeat' (first | trivial | refine And.intro ?_ ?_ | (show 0 + _ ≤ List.length _; simp))) ALeL.refl (h0) rfl ?_) | fail)
      all_goals first
        | (change retOk _ _ _ _; refine ret_pure rfl (by skip) ?_; exact ⟨ALe.tup ⟨ALe.pv PLe.nil, ALe.refl, trivial⟩⟩)
        | exact ⟨ALe.tup ⟨ALe.pv PLe.nil, ALe.refl, trivial⟩⟩
        | exact absurd (by assumption) he
  · rw [if_neg h, if_neg (by omega)]
    generalize regE r = RE at *
    obtain ⟨k, n, l⟩ := s
    rw [row_mk] at *
    refine acall_of tok mixed 37 rfl (fn := Tryz.f11) (c := Tryz.f11.body.getD .skip) (by kernel_rfl) (by kernel_rfl) (by kernel_rfl) rfl 0 rfl ?_
    repeat' (first | refine o1 ?_ | refine o2 ?_ | refine k1 ?_ | refine k2 ?_ | refine k3 ?_ | refine k7 ?_ | refine And.intro ?_ ?_ | (intro h; first | exact Bool.noConfusion h | exact nz _ h | exact nl h | (simp at h; done) | (simp at h; first | (exfalso; omega) | skip) | skip) | (change retOk _ _ _ _; refine ret_pure rfl trivial ?_) | (change vcFun _ _ _ _ _; refine call_eq rfl (by repeat' (first | trivial | refine And.intro ?_ ?_ | (show 0 + _ ≤ List.length _; simp))) ALeL.refl (h0) rfl ?_) | fail)
    all_goals first
      | exact ⟨ALe.tup ⟨ALe.pv PLe.nil, ALe.refl, trivial⟩⟩
      | exact absurd (by assumption) h
theorem c_pclasses (r : Reg) (s : Sel) (hs : SelL s) : PCall Tryz.prog 11 [ag r.cells, ag s.row] (fun a => a = .tup [.pv (encInts (clsL r s)), vint .i64 (clsE0 r s)]) :=
  (c_pclasses0 r s hs).weak fun r h => ⟨_, h.le, rfl⟩
theorem c_sameInts2 (l : List Int) (hl : l.length ≤ 100000) : PCall Tryz.prog 15 [.pv (encInts l), .pv (encInts l)] (fun a => a = vbool true) := by
  refine acall_of tok mixed 26 rfl (fn := Tryz.f15) (c := Tryz.f15.body.getD .skip) (by kernel_rfl) (by kernel_rfl) (by kernel_rfl) rfl 0 rfl ?_
  repeat' (first | refine o1 ?_ | refine o2 ?_ | refine k1 ?_ | refine k2 ?_ | refine k3 ?_ | refine k4 ?_ | refine k6 ?_ | refine And.intro ?_ ?_ | (intro h; first | exact Bool.noConfusion h | exact nz _ h | exact nl h | (simp at h; done) | (simp at h; first | (exfalso; omega) | skip) | skip) | refine eqv_len_map ?_ | fail)
  all_goals try (exfalso; simp_all; done)
  refine loop_at (fun i : Nat => [(5, vint .i64 i)]) (fun _ => []) (fun i => i ≤ l.length) (fun i => l.length - i) 0 (Nat.zero_le _) (by repeat' (first | exact trivial | exact ⟨_, rfl, ALe.refl⟩ | refine And.intro ?_ ?_)) (by repeat' (first | exact trivial)) ?_
  intro i hi
  rcases Nat.lt_or_ge i l.length with hlt | hge
  · obtain ⟨x, hx⟩ := getE hlt
    repeat' (first | refine o1 ?_ | refine o2 ?_ | refine k1 ?_ | refine k2 ?_ | refine k3 ?_ | refine k4 ?_ | refine k6 ?_ | refine And.intro ?_ ?_ | refine o3 ?_ | refine o4 ?_ | (intro h; first | exact Bool.noConfusion h | exact nz _ h | exact nl h | (simp at h; done) | (simp at h; first | (exfalso; omega) | skip) | skip) | exact (by kernel_rfl : drawOk _ _ = true) | refine eqv_len_map ?_ | refine eqv_wrap (by omega) (by omega) ?_ | refine ⟨_, _, (by first | rfl | assumption), at_map (by assumption), ?_⟩ | fail)
    all_goals first
      | exact ⟨i + 1, by omega, by omega, back [] rfl rfl trivial (by repeat' (first | exact trivial | exact rfl | refine And.intro ?_ ?_))⟩
  · obtain rfl : i = l.length := by omega
    repeat' (first | refine o1 ?_ | refine o2 ?_ | refine k1 ?_ | refine k2 ?_ | refine k3 ?_ | refine k7 ?_ | refine k8 ?_ | refine And.intro ?_ ?_ | (intro h; first | exact Bool.noConfusion h | exact nz _ h | exact nl h | (simp at h; done) | (simp at h; first | (exfalso; omega) | skip) | skip) | (change retOk _ _ _ _; refine ret_pure rfl trivial ?_) | refine eqv_len_map ?_ | fail)
    all_goals first
      | rfl
-- The law's number of parts.
mutual
noncomputable def p15 : Sel → Int
  | .mk _ _ l => p15L 1 l
noncomputable def p15L : Int → List Sel → Int
  | n, [] => n
  | n, q :: l => if n ≤ 200 then p15L (IntKind.i64.wrap (n + p15 q)) l else n
end
noncomputable def p15I (l : List Sel) (i : Nat) : Int := p15L 1 (l.take i)
theorem p15_snoc : ∀ (l : List Sel) (n : Int) (q : Sel), p15L n (l ++ [q]) = if p15L n l ≤ 200 then IntKind.i64.wrap (p15L n l + p15 q) else p15L n l
  | [], n, q => by by_cases h : n ≤ 200 <;> simp [p15L, h]
  | x :: l, n, q => by
    rw [List.cons_append, p15L, p15L]
    by_cases h : n ≤ 200
    · rw [if_pos h, if_pos h]; exact p15_snoc l _ q
    · rw [if_neg h, if_neg h, if_neg h]
theorem p15_succ {l : List Sel} {i : Nat} {q : Sel} (h : l[i]? = some q) (h2 : p15I l i ≤ 200) : p15I l (i + 1) = IntKind.i64.wrap (p15I l i + p15 q) := by
  unfold p15I at *; rw [take_snoc h, p15_snoc, if_pos h2]
theorem p15_stop : ∀ (l : List Sel) (n : Int), ¬ n ≤ 200 → p15L n l = n
  | [], n, _ => by simp [p15L]
  | q :: l, n, h => by rw [p15L, if_neg h]
theorem p15_far {k : Int} {n : Str} {l : List Sel} {i : Nat} (h : ¬ p15I l i ≤ 200) : p15 (.mk k n l) = p15I l i := by
  rw [p15]
  have e : p15L 1 l = p15L (p15I l i) (l.drop i) := by
    unfold p15I
    have : ∀ (a b : List Sel) (n : Int), p15L n (a ++ b) = p15L (p15L n a) b := fun a => by
      induction a with
      | nil => intro b n; simp [p15L]
      | cons x a ih =>
        intro b n
        rw [List.cons_append, p15L, p15L]
        split
        · exact ih b _
        · rename_i h; exact (p15_stop b n h).symm
    rw [← this, List.take_append_drop]
  rw [e, p15_stop _ _ h]
theorem p15_all {k : Int} {n : Str} {l : List Sel} : p15 (.mk k n l) = p15I l l.length := by unfold p15I; rw [List.take_length, p15]
theorem c_parts15 : ∀ (s : Sel) (hs : SelL s), PCall Tryz.prog 9 [ag s.row] (fun r => r = vint .i64 (p15 s)) := by
  intro s hs
  induction hs with
  | mk hl hk ih =>
    rename_i k n l
    have hall : p15 (.mk k n l) = p15I l l.length := p15_all
    have hfar : ∀ i, ¬ p15I l i ≤ 200 → p15 (.mk k n l) = p15I l i := fun i h => p15_far h
    rw [row_mk]
    generalize p15 (.mk k n l) = PV0 at *
    refine acall_of tok mixed 25 rfl (fn := Tryz.f9) (c := Tryz.f9.body.getD .skip) (by kernel_rfl) (by kernel_rfl) (by kernel_rfl) rfl 0 rfl ?_
    repeat' (first | refine o1 ?_ | refine o2 ?_ | refine k1 ?_ | refine k2 ?_ | refine k4 ?_ | fail)
    refine loop_for (fun i : Nat => [(1, .ptr 0 3 0 0), (3, vint .i64 (p15I l i)), (4, vint .i64 i)]) (fun _ => [some ⟨52, 3, false, .box (pvs [ei k, es n, .sl 3 (l.map Sel.row)])⟩]) (fun i => i ≤ l.length) (fun i => l.length - i) 0 (Nat.zero_le _) ?_ ?_
    · exact back [0] rfl rfl ⟨rfl, trivial⟩ (by repeat' (first | exact trivial | exact rfl | refine And.intro ?_ ?_))
    intro i hi
    rcases Nat.lt_or_ge i l.length with hlt | hge
    · obtain ⟨⟨kq, nq, lq⟩, hq⟩ := getE hlt
      have hm := List.mem_of_getElem? hq
      have hc := ih _ hm
      have hsn := p15_succ hq
      have hfi := hfar i
      generalize p15 (.mk kq nq lq) = Q at *
      by_cases hA : p15I l i ≤ 200
      · have hsn := hsn hA
        generalize hAA : p15I l i = A at *
        repeat' (first | (refine idx_sl (k := i) (at_map hq) rfl ?_) | (refine (eqv_rfl ?_ : eqv (IntKind.i64.wrap (A + Q)) _)) | refine o1 ?_ | refine o2 ?_ | refine k1 ?_ | refine k2 ?_ | refine k3 ?_ | refine k4 ?_ | refine k6 ?_ | refine And.intro ?_ ?_ | (intro h; first | exact Bool.noConfusion h | exact nz _ h | exact nl h | (simp at h; done) | (simp at h; first | (exfalso; omega) | skip) | skip) | refine eqv_len_map ?_ | refine eqv_wrap (by omega) (by omega) ?_ | (change vcFun _ _ _ _ _; refine call_eq rfl (by repeat' (first | trivial | refine And.intro ?_ ?_ | (show 0 + _ ≤ List.length _; simp))) ALeL.refl (hc) rfl ?_) | fail)
        all_goals try (exfalso; omega)
        all_goals first
          | (refine ⟨i + 1, by omega, by omega, ?_⟩
             rw [hsn]
             exact back [0] rfl rfl ⟨rfl, trivial⟩ (by repeat' (first | exact trivial | exact rfl | refine And.intro ?_ ?_)))
      · rw [hfi hA]
        generalize hAA : p15I l i = A at *
        repeat' (first | refine o1 ?_ | refine o2 ?_ | refine k1 ?_ | refine k2 ?_ | refine k3 ?_ | refine k7 ?_ | refine k8 ?_ | refine And.intro ?_ ?_ | (intro h; first | exact Bool.noConfusion h | exact nz _ h | exact nl h | (simp at h; done) | (simp at h; first | (exfalso; omega) | skip) | skip) | (change retOk _ _ _ _; refine ret_pure rfl trivial ?_) | refine eqv_len_map ?_ | fail)
        all_goals try (exfalso; omega)
        all_goals first
          | rfl
    obtain rfl : i = l.length := by omega
    rw [hall]
    generalize p15I l l.length = A at *
    repeat' (first | refine o1 ?_ | refine o2 ?_ | refine k1 ?_ | refine k2 ?_ | refine k3 ?_ | refine k7 ?_ | refine k8 ?_ | refine And.intro ?_ ?_ | (intro h; first | exact Bool.noConfusion h | exact nz _ h | exact nl h | (simp at h; done) | (simp at h; first | (exfalso; omega) | skip) | skip) | (change retOk _ _ _ _; refine ret_pure rfl trivial ?_) | refine eqv_len_map ?_ | fail)
    all_goals try (exfalso; omega)
    all_goals first
      | rfl
end Go.Proofs.YtkbaecjnhmbeeaaGreat.Cw
