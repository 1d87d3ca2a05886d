/-
  Part 9 of the proof (SD3, FSD): what later parts use. No conditions.
-/
import Derived.Test.YtihpjcmloecaaaaGreatRows
import Derived.WalkKit
import Derived.ProofKit
import Derived.OpenShut
import Derived.Test.YtihpjcmloecaaaaGreatMJ8
/-
  Symmetry: the law on costs.
-/
namespace Go.Proofs.YtihpjcmloecaaaaGreat.Cw
open Go Go.Cw Go.Proofs
set_option linter.unusedVariables false
set_option maxRecDepth 100000
set_option maxHeartbeats 8000000
theorem PlX.planned {m : Model} {l : List Int} (h : PlX m false l m.classes.length) : plannedP m l := by
  refine ⟨h.len, fun i hi o ho => ?_⟩
  obtain ⟨c, hc⟩ := getE (l := m.classes) (i := i) (by rw [← h.len]; exact hi)
  obtain ⟨h1, _, h2, _⟩ := h.at_ i (by rw [← h.len]; exact hi) o c ho hc
  have := h2 rfl
  exact (opt_iff hc).2 ⟨h1, this⟩
theorem imgP_take {m : Model} {a b : Int} {p : List Int} {i : Nat} {o : Int} {l : List Opt} (ho : p[i]? = some o) (hl : m.classes[i]? = some l) : (imgP m a b p).take (i + 1) = (imgP m a b p).take i ++ [if o < 0 then -1 else ((imN l a b o.toNat : Nat) : Int)] := tk_snoc (imgP_at ho hl)
theorem exV_all {m : Model} {a b : Int} (h : exP m a b) : exV m a b = imgsAll m a b := by unfold exV; rw [if_pos (pB_t h)]
theorem c_symcosts (t : List Int) (a b : Int) : PCall Tryz.prog 7 [.pv (encInts t), vint .i64 a, vint .i64 b] (fun r => r = vbool true) := by
  have hA := awake_ok
  refine acall_of tok mixed 161 rfl (fn := Tryz.f7) (c := Tryz.f7.body.getD .skip) (by kernel_rfl) (by kernel_rfl) (by kernel_rfl) rfl 0 rfl ?_
  repeat' (first | ((change vcFun _ _ _ _ _; refine call_new [.pv (encInts t)] rfl (c_roll t) (fun _ _ => rfl) ?_)) | ((change vcFun _ _ _ _ _; refine call_model 0 rfl (by assumption) (Nat.zero_le _) ?_; intro m kc hkc hmx; have hm := hmx.laid)) | (refine eqv_to (bits BinOp.and IntKind.i64 a 3) rfl ?_) | (refine eqv_to (bits BinOp.and IntKind.i64 b 3) rfl ?_) | ((change vcFun _ _ _ _ _; refine call_frz rfl (by repeat' (first | trivial | refine And.intro ?_ ?_ | (show 0 + _ ≤ List.length _; simp))) ALeL.refl (c_Swap m _ _ hm) ?_; rintro _ rfl)) | refine o1 ?_ | refine o2 ?_ | refine k1 ?_ | refine k2 ?_ | refine k3 ?_ | refine k6 ?_ | refine k7 ?_ | refine And.intro ?_ ?_ | (intro h; first | exact Bool.noConfusion h | exact nz _ h | exact nl h | (simp at h; done) | (simp at h; first | (exfalso; omega) | skip) | skip) | (change retOk _ _ _ _; refine ret_pure rfl trivial ?_) | exact (by kernel_rfl : drawOk _ _ = true) | refine eqv_len_map ?_ | (change vcFun _ _ _ _ _; refine call_eq rfl (by repeat' (first | trivial | refine And.intro ?_ ?_ | (show 0 + _ ≤ List.length _; simp))) ALeL.refl (c_light t) rfl ?_) | (change vcFun _ _ _ _ _; refine call_eq rfl (by repeat' (first | trivial | refine And.intro ?_ ?_ | (show 0 + _ ≤ List.length _; simp))) ALeL.refl (hA) rfl ?_) | fail)
  · rfl
  · rfl
  · exfalso
    rename_i h1
    rw [exV_all h1] at h
    unfold imgsAll at h
    rw [List.length_map] at h
    exact h rfl
  rename_i hex
  clear h
  generalize bits BinOp.and IntKind.i64 a 3 = a3 at *
  generalize bits BinOp.and IntKind.i64 b 3 = b3 at *
  obtain ⟨hok, _, _, _, hsw⟩ := id hex
  have hEV := exV_all hex
  have hg := model_good hok
  obtain ⟨pl, kb, hkb, hpx, hpc⟩ := plan_ex t kc (by assumption) hkc m false hmx
  have hpp := hpx.planned
  have hip := imgP_planned hsw.1 hpp
  have hC1 := c_costP m pl hok hm hpp
  have hC2 := c_costP m (imgP m a3 b3 pl) hok hm hip
  obtain ⟨e1, e2⟩ := cost_img hg hsw hpp
  rw [e1, e2] at hC2
  have hrl : (rulesV m pl).length = m.rules.toNat := run_len
  have hrm := (model_sized hok).2.2.2.2
  have hSI := c_sameIntsR (rulesV m pl) (by omega)
  have hpl := hpp.1
  have h24 := (model_sized hok).1
  have hIL := imgP_len (m := m) (a := a3) (b := b3) (p := pl)
  have hVi : ∀ i l, m.classes[i]? = some l → (exV m a3 b3)[i]? = some (imgsL l a3 b3 l.length) := fun i l hl => by rw [hEV]; exact all_at hl
  have hVn : (exV m a3 b3).length = m.classes.length := by rw [hEV]; unfold imgsAll; rw [List.length_map]
  generalize exV m a3 b3 = EV at *
  repeat' (first | ((change vcFun _ _ _ _ _; refine call_one (i := 0) rfl (fun _ _ => rfl) [.ptr 0 2 0 0, ag m.cells, vbool false] rfl hpc ?_; rintro r H' ⟨rfl, rfl⟩; refine ⟨_, rfl, fun _ _ => rfl, fun _ _ => rfl, ?_⟩)) | refine o1 ?_ | refine o2 ?_ | refine k1 ?_ | refine k2 ?_ | refine k4 ?_ | fail)
  refine loop_for (fun i : Nat => [(8, .ptr 1 4 0 0), (9, .pv (.sl 1 (EV.map natsRow))), (11, .pv (encInts pl)), (12, slP 2 1 (((imgP m a3 b3 pl).take i).map intRow)), (13, vint .i64 i)]) (fun i => [none, mdlO m, obP 3 1 (((imgP m a3 b3 pl).take i).map intRow)]) (fun i => i ≤ pl.length) (fun i => pl.length - i) 0 (Nat.zero_le _) ?_ ?_
  · exact back [0, 1, 2] rfl rfl (by repeat' (first | exact trivial | exact rfl | refine And.intro ?_ ?_)) (by repeat' (first | exact trivial | exact rfl | refine And.intro ?_ ?_))
  intro i hi
  dsimp only [mdlO]
  rcases Nat.lt_or_ge i pl.length with hlt | hge
  · obtain ⟨o, ho⟩ := getE hlt
    obtain ⟨l, hl⟩ := getE (l := m.classes) (i := i) (by omega)
    have hV := hVi i l hl
    have hlm := List.mem_of_getElem? hl
    have him := hsw.1 l hlm
    have hwl := imgs_whole him
    have hln := (model_sized hok).2.1 l hlm
    have htk := imgP_take (a := a3) (b := b3) ho hl
    have hKl : ((imgP m a3 b3 pl).take i).length ≤ 24 := by rw [List.length_take]; omega
    generalize (imgP m a3 b3 pl).take i = IM at *
    have hb1 : ((IM.map intRow).length + 1) * 8 ≤ 140737488355328 := by rw [List.length_map]; omega
    have hb2 : (IM.map intRow).length + 1 ≤ 9223372036854775807 := by rw [List.length_map]; omega
    repeat' (first | (refine fh_ob ?_) | (refine idx_sl (k := i) (at_map hV) (by omega) ?_) | (refine idx_sl (k := i) (at_map hl) (by omega) ?_) | refine o1 ?_ | refine o2 ?_ | refine k1 ?_ | refine k2 ?_ | refine k3 ?_ | refine k4 ?_ | refine k6 ?_ | refine And.intro ?_ ?_ | refine o3 ?_ | refine o4 ?_ | (intro h; first | exact Bool.noConfusion h | exact nz _ h | exact nl h | (simp at h; done) | (simp at h; first | (exfalso; omega) | skip) | skip) | exact (by kernel_rfl : drawOk _ _ = true) | refine eqv_len_map ?_ | fail)
    all_goals first
      | (exfalso; simp at *; omega)
      | skip
    refine loop_for (fun k : Nat => [(8, .ptr 1 4 0 0), (9, .pv (.sl 1 (EV.map natsRow))), (11, .pv (encInts pl)), (12, slP 2 1 (IM.map intRow)), (13, vint .i64 i), (14, vint .i64 k)]) (fun k => [none, mdlO m, obP 3 1 (IM.map intRow)]) (fun k => k ≤ l.length) (fun k => l.length - k) 0 (Nat.zero_le _) ?_ ?_
    · exact back [0, 1, 2] rfl rfl (by repeat' (first | exact trivial | exact rfl | refine kept_ob rfl ?_ | refine And.intro ?_ ?_)) (by repeat' (first | exact trivial | exact rfl | exact ren_get rfl | refine And.intro ?_ ?_))
    intro k hk
    dsimp only [mdlO]
    rcases Nat.lt_or_ge k l.length with hkl | hkg
    · have hk1 := imgs_at him hkl
      obtain ⟨_, hk2⟩ := ok_imN (him k hkl)
      have hk3 := imgs_at him hk2
      rw [imN_back him hkl] at hk3
      generalize imN l a3 b3 k = x at *
      repeat' (first | (refine fh_ob ?_) | (refine idx_sl (k := i) (at_map hV) (by omega) ?_) | (refine idx_sl (k := k) (at_map hk1) (by omega) ?_) | (refine idx_sl (k := x) (at_map hk3) (by omega) ?_) | refine o1 ?_ | refine o2 ?_ | refine k1 ?_ | refine k2 ?_ | refine k3 ?_ | refine k4 ?_ | refine k6 ?_ | refine And.intro ?_ ?_ | (intro h; first | exact Bool.noConfusion h | exact nz _ h | exact nl h | (simp at h; done) | (simp at h; first | (exfalso; omega) | skip) | skip) | refine eqv_len_map ?_ | refine eqv_wrap (by omega) (by omega) ?_ | fail)
      all_goals first
        | (exfalso; omega)
        | exact ⟨k + 1, by omega, by omega, back [0, 1, 2] rfl rfl (by repeat' (first | exact trivial | exact rfl | refine kept_ob rfl ?_ | refine And.intro ?_ ?_)) (by repeat' (first | exact trivial | exact rfl | exact ren_get rfl | refine And.intro ?_ ?_))⟩
    · obtain rfl : k = l.length := by omega
      by_cases ho0 : o < 0
      · rw [if_pos ho0] at htk
        repeat' (first | (refine fv_sl ?_) | (refine fh_ob ?_) | (refine idx_sl (k := i) (at_map hV) (by omega) ?_) | (refine idx_sl (k := i) (at_map ho) (by omega) ?_) | ((refine o_app rfl rfl rfl rfl rfl rfl rfl rfl rfl rfl rfl hb1 hb2 ?_)) | refine o1 ?_ | refine o2 ?_ | refine k1 ?_ | refine k2 ?_ | refine k3 ?_ | refine k8 ?_ | refine And.intro ?_ ?_ | (intro h; first | exact Bool.noConfusion h | exact nz _ h | exact nl h | (simp at h; done) | (simp at h; first | (exfalso; omega) | skip) | skip) | refine eqv_len_map ?_ | refine eqv_wrap (by omega) (by omega) ?_ | fail)
        all_goals first
          | (exfalso; omega)
          | (refine ⟨i + 1, by omega, by omega, ?_⟩
             rw [htk, map_snoc, sl_app, ob_app]
             refine back [0, 1, 4] rfl rfl ?_ ?_
             · repeat' (first | exact trivial | exact rfl | refine And.intro ?_ ?_)
             · repeat' (first | exact trivial | exact rfl | refine And.intro ?_ ?_))
      · rw [if_neg ho0] at htk
        obtain ⟨n, rfl⟩ := Int.eq_ofNat_of_zero_le (show 0 ≤ o by omega)
        rw [Int.toNat_natCast] at htk
        have hnl : n < l.length := by
          rcases hpp.2 i hlt _ ho with h | ⟨_, _, l', h3, h4⟩
          · omega
          · rw [Int.toNat_natCast, hl] at h3; cases h3; omega
        have hn1 := imgs_at him hnl
        generalize imN l a3 b3 n = x at *
        repeat' (first | (refine fv_sl ?_) | (refine fh_ob ?_) | (refine idx_sl (k := i) (at_map hV) (by omega) ?_) | (refine idx_sl (k := i) (at_map ho) (by omega) ?_) | (refine idx_sl (k := n) (at_map hn1) (by omega) ?_) | ((refine o_appD rfl rfl rfl rfl rfl rfl rfl rfl rfl rfl rfl hb1 hb2 ?_)) | refine o1 ?_ | refine o2 ?_ | refine k1 ?_ | refine k2 ?_ | refine k3 ?_ | refine k8 ?_ | refine And.intro ?_ ?_ | refine o3 ?_ | refine o4 ?_ | (intro h; first | exact Bool.noConfusion h | exact nz _ h | exact nl h | (simp at h; done) | (simp at h; first | (exfalso; omega) | skip) | skip) | exact (by kernel_rfl : drawOk _ _ = true) | refine eqv_len_map ?_ | refine eqv_wrap (by omega) (by omega) ?_ | fail)
        all_goals first
          | (exfalso; omega)
          | (refine ⟨i + 1, by omega, by omega, ?_⟩
             rw [htk, map_snoc, sl_app, ob_app]
             refine back [0, 1, 4] rfl rfl ?_ ?_
             · repeat' (first | exact trivial | exact rfl | refine And.intro ?_ ?_)
             · repeat' (first | exact trivial | exact rfl | refine And.intro ?_ ?_))
  · obtain rfl : i = pl.length := by omega
    rw [List.take_of_length_le (by omega)]
    generalize imgP m a3 b3 pl = IM at *
    refine forceH_in ?_
    refine ghost_seq (Γ' := [(8, .ptr 1 4 0 0), (9, .pv (.sl 1 (EV.map natsRow))), (11, .pv (encInts pl)), (12, .pv (.sl 1 (IM.map intRow))), (13, vint .i64 pl.length)]) (H' := [none, mdlO m]) (Ghost.sl (s := 12) (id := 2) rfl rfl fun H' hl hH => back [0, 1] rfl rfl ⟨hH 1 (by decide), trivial⟩ (by repeat' (first | exact trivial | exact rfl | refine And.intro ?_ ?_))) ?_
    dsimp only [mdlO]
    repeat' (first | ((change vcFun _ _ _ _ _; refine call_frz rfl (by repeat' (first | trivial | refine And.intro ?_ ?_ | (show 0 + _ ≤ List.length _; simp))) ALeL.refl hC1 ?_; rintro _ rfl)) | ((change vcFun _ _ _ _ _; refine call_frz rfl (by repeat' (first | trivial | refine And.intro ?_ ?_ | (show 0 + _ ≤ List.length _; simp))) ALeL.refl hC2 ?_; rintro _ rfl)) | refine o1 ?_ | refine o2 ?_ | refine k1 ?_ | refine k2 ?_ | refine k3 ?_ | refine k7 ?_ | refine k8 ?_ | refine And.intro ?_ ?_ | (intro h; first | exact Bool.noConfusion h | exact nz _ h | exact nl h | (simp at h; done) | (simp at h; first | (exfalso; omega) | skip) | skip) | (change retOk _ _ _ _; refine ret_pure rfl trivial ?_) | refine eqv_len_map ?_ | (change vcFun _ _ _ _ _; refine call_eq rfl (by repeat' (first | trivial | refine And.intro ?_ ?_ | (show 0 + _ ≤ List.length _; simp))) ALeL.refl (hSI) rfl ?_) | (change vcFun _ _ _ _ _; refine call_eq rfl (by repeat' (first | trivial | refine And.intro ?_ ?_ | (show 0 + _ ≤ List.length _; simp))) ALeL.refl (hA) rfl ?_) | fail)
    all_goals rfl
end Go.Proofs.YtihpjcmloecaaaaGreat.Cw
/-
  The law SymmetryCosts is true: for all arguments the call returns true and the arguments read as_ before. No conditions.
-/
namespace Go.Proofs.YtihpjcmloecaaaaGreat
open Go.ChangeShapes Go.WideShapes Go.ChangeAt Go.RowKit
open Go.Cw (ArgsOk vbool)
theorem symmetrycosts_own : ownKnob Tryz.prog.godebug = none := by kernel_rfl
theorem symmetrycosts_laid : laidOutB Tryz.prog = true := by kernel_rfl
theorem symmetrycosts_call (al : List Go.Cw.AV) (h : ArgsOk Cw.T Tryz.f7.params.toList al) : Go.Cw.ACall Tryz.prog 7 al [] (fun r _ => r = vbool true) := by
  rw [Tryz.params7] at h
  have h : ArgsOk Cw.T [22, 3, 3] al := h
  obtain ⟨v0, a0, rfl, h0⟩ := Cw.args_ints h
  obtain ⟨v1, a1, rfl, lo1, hi1, h1⟩ := Cw.args_int h0
  obtain ⟨v2, a2, rfl, lo2, hi2, h2⟩ := Cw.args_int h1
  obtain rfl := Go.Cw.args_end h2
  exact Go.Cw.ACall.mono (Cw.c_symcosts v0 v1 v2) fun r H1 e => e.2
set_option maxRecDepth 100000 in
theorem symmetrycosts_lifted (os : Os) (started : os.Started) (H : Type) (enc : TypeId × Value → H) :
    ReturnsInHanded {} Tryz.checked os 7 .any (Rows.symmetryCostsSpec.pre6 enc Tryz.prog Tryz.f7 Rows.symmetryCostsRow.domain false) (Rows.symmetryCostsSpec.post enc Tryz.prog Tryz.f7 false true false false) := by
  refine returnsInHanded_of_change (C := Tryz.checked) symmetrycosts_own started (by kernel_rfl) Tryz.func7
    (ChangeSpec.witness6 (enc := enc) (C := Tryz.checked) false ⟨#[], #[.slice none 0 0, .int .i64 0, .int .i64 0], []⟩ 8 (by kernel_rfl) (by kernel_rfl) (by kernel_rfl) (by kernel_rfl)) ?_
  intro W base args ds gs before hval0 hW hcnd _
  exact Go.Cw.law_step (T := Cw.T) Cw.tok symmetrycosts_laid 12 rfl (by kernel_rfl) (by kernel_rfl) Tryz.underlying4
    (fun ds hd => by match ds, hd with | [d0, d1, d2], _ => exact ⟨rfl, rfl, rfl⟩)
    symmetrycosts_call hval0 hW (fun e he => by cases he)
theorem symmetrycosts_holds : Rows.SymmetryCostsSaid :=
  OpenClaim.holds_of_wide 7 Tryz.f7 rfl rfl rfl rfl rfl rfl rfl ⟨rfl, rfl, rfl, rfl, rfl⟩ rfl rfl rfl rfl rfl (by kernel_rfl) Tryz.func7 (by kernel_rfl)
    (of_decide_eq_true (by kernel_rfl)) (by unfold Func.isWrapper; first | (rw [if_pos (by decide +kernel)]; kernel_rfl) | (rw [if_neg (by decide +kernel)]; exact ⟨rfl, rfl⟩))
    (fun os started H enc _ => symmetrycosts_lifted os started H enc)
end Go.Proofs.YtihpjcmloecaaaaGreat
