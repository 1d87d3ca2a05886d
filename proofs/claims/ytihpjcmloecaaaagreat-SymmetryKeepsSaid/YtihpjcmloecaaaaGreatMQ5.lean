/-
  Part 5 of the proof (SY6, SY7, SLK, SY8, SY9, SYA, SB3, SB4, SYB, SYC, SYD, SYF, SYG, SYH, SYI): what later parts use. No conditions.
-/
import Derived.Laws.AppendOwn
import Derived.WalkKit
import Derived.Deep.LoopGhost
import Derived.Lib.Walk
import Derived.Lib.SliceRun
import Derived.Shelf.RegionOpenPlain
import Derived.Test.YtihpjcmloecaaaaGreatMQ4
/-
  Symmetry: the images of a class's options.
-/
namespace Go.Proofs.YtihpjcmloecaaaaGreat.Cw
open Go Go.Cw Go.Proofs
set_option linter.unusedVariables false
set_option maxRecDepth 100000
set_option maxHeartbeats 8000000
theorem lists_eq {α : Type} {a b : List α} (hl : a.length = b.length) (h : ∀ j, j < a.length → ∀ x y, a[j]? = some x → b[j]? = some y → x = y) : a = b := by
  apply List.ext_getElem hl
  intro j h1 h2
  exact h j h1 _ _ (List.getElem?_eq_getElem h1) (List.getElem?_eq_getElem h2)
theorem charge_eq {x y : Charge} (h1 : x.rule = y.rule) (h2 : x.cost = y.cost) : x = y := by
  obtain ⟨a, b⟩ := x
  obtain ⟨c, d⟩ := y
  simp only at h1 h2
  subst h1; subst h2; rfl
theorem c_eqCh (a b : List Charge) (ha : a.length ≤ 2199023255552) (hb : b.length ≤ 2199023255552) : PCall Tryz.prog 112 [.pv (.sl 2 (a.map Charge.row)), .pv (.sl 2 (b.map Charge.row))] (fun r => r = vbool (pB (a = b))) := by
  refine acall_of tok mixed 26 rfl (fn := Tryz.f112) (c := Tryz.f112.body.getD .skip) (by kernel_rfl) (by kernel_rfl) (by kernel_rfl) rfl 0 rfl ?_
  repeat' (first | refine o1 ?_ | refine o2 ?_ | refine k1 ?_ | refine k2 ?_ | refine k3 ?_ | refine k4 ?_ | refine k6 ?_ | refine k7 ?_ | refine And.intro ?_ ?_ | (intro h; first | exact Bool.noConfusion h | exact nz _ h | exact nl h | (simp at h; done) | (simp at h; first | (exfalso; omega) | skip) | skip) | (change retOk _ _ _ _; refine ret_pure rfl trivial ?_) | refine eqv_len_map ?_ | fail)
  · exact congrArg vbool (pB_f fun e => by subst e; simp_all).symm
  · have hl : a.length = b.length := by omega
    refine loop_at (fun i : Nat => [(13, vint .i64 i)]) (fun _ => []) (fun i => i ≤ a.length ∧ ∀ j, j < i → ∀ x y, a[j]? = some x → b[j]? = some y → x = y) (fun i => a.length - i) 0 ⟨Nat.zero_le _, fun j hj => by omega⟩ (by repeat' (first | exact trivial | exact ⟨_, rfl, ALe.refl⟩ | refine And.intro ?_ ?_)) (by repeat' (first | exact trivial)) ?_
    intro i ⟨hi, hall⟩
    rcases Nat.lt_or_ge i a.length with hlt | hge
    · obtain ⟨x, hx⟩ := getE hlt
      obtain ⟨y, hy⟩ := getE (show i < b.length by omega)
      repeat' (first | refine o1 ?_ | refine o2 ?_ | refine k1 ?_ | refine k2 ?_ | refine k3 ?_ | refine k4 ?_ | refine k6 ?_ | refine k7 ?_ | refine And.intro ?_ ?_ | refine o3 ?_ | refine o4 ?_ | (intro h; first | exact Bool.noConfusion h | exact nz _ h | exact nl h | (simp at h; done) | (simp at h; first | (exfalso; omega) | skip) | skip) | (change retOk _ _ _ _; refine ret_pure rfl trivial ?_) | exact (by kernel_rfl : drawOk _ _ = true) | refine eqv_wrap (by omega) (by omega) ?_ | refine ⟨_, _, (by first | rfl | assumption), at_map (by assumption), ?_⟩ | fail)
      · exact congrArg vbool (pB_f fun e => by
          subst e
          rw [hx] at hy; injection hy with hy; subst hy
          rename_i h
          rcases h with h | h <;> exact h rfl).symm
      · rename_i h
        exact ⟨i + 1, ⟨by omega, all_lt_succ hall fun x' y' q1 q2 => by rw [hx] at q1; cases q1; rw [hy] at q2; cases q2; exact charge_eq h.1 h.2⟩, by omega, back [] rfl rfl trivial (by repeat' (first | exact trivial | exact rfl | refine And.intro ?_ ?_))⟩
    · repeat' (first | refine o1 ?_ | refine o2 ?_ | refine k1 ?_ | refine k2 ?_ | refine k3 ?_ | refine k7 ?_ | refine k8 ?_ | refine And.intro ?_ ?_ | (intro h; first | exact Bool.noConfusion h | exact nz _ h | exact nl h | (simp at h; done) | (simp at h; first | (exfalso; omega) | skip) | skip) | (change retOk _ _ _ _; refine ret_pure rfl trivial ?_) | fail)
      exact congrArg vbool (pB_t (lists_eq hl fun j hj => hall j (by omega))).symm
theorem call_image {l : List Opt} {i : Nat} {r : Int} {E : List Ent} {H : Heap} {K : AV → Heap → Prop} (k : Nat) (hE : E = grpE l l.length) (hH : H[k]? = some (mapP 85 E)) (hl : l.length ≤ 1000) (hi : i < l.length) (hK : K (imgA (imgO l i r)) H) :
    vcFun Tryz.prog 46 [.mp k, .pv (.sl 6 (l.map Opt.row)), vint .i64 i, vint .i64 r] H K := by
  subst hE
  refine call_one (i := k) (o := ⟨85, 1, false, .mp (.arr 5) .i64 (entsP 0 (grpE l l.length)) (grpE l l.length).length⟩) hH (fun d rn => ren_mp entsP_pure) [.mp 0, .pv (.sl 6 (l.map Opt.row)), vint .i64 i, vint .i64 r] rfl (c_image l i r hl hi) ?_
  rintro a H' ⟨rfl, rfl⟩
  refine ⟨_, rfl, fun _ _ => ren_mp entsP_pure, fun _ _ => ?_, ?_⟩
  · cases imgO l i r <;> rfl
  · have hs : H.set k (mapP 85 (grpE l l.length)) = H := by
      apply List.ext_getElem?
      intro j
      rw [List.getElem?_set]
      split
      · rename_i e; subst e
        rw [if_pos (List.getElem?_eq_some_iff.1 hH).1, hH]
      · rfl
    show K _ (H.set k (mapP 85 (grpE l l.length)))
    rw [hs]; exact hK
theorem call_index {l : List Opt} {H : Heap} {K : AV → Heap → Prop} (hl : l.length ≤ 1000) (hK : K (.mp H.length) (H ++ [mapP 85 (grpE l l.length)])) : vcFun Tryz.prog 45 [.pv (.sl 6 (l.map Opt.row))] H K := by
  refine call_obj [] [] [.pv (.sl 6 (l.map Opt.row))] rfl trivial rfl (c_indexOf l hl) fun r Hc' hp => ?_
  obtain ⟨rfl, rfl⟩ := hp
  refine ⟨Nat.zero_le _, ?_⟩
  simp only [List.length_cons, List.length_nil, Nat.sub_zero, List.nil_append]
  have he : renOpt 0 (tabl H.length 1) (mapP 85 (grpE l l.length)) = mapP 85 (grpE l l.length) := by
    show some (renO _ _ _) = some _
    rw [ren_mp entsP_pure]
  show K (.mp H.length) (H ++ [renOpt _ _ (mapP 85 (grpE l l.length))])
  have hr : ∀ d rn, renOpt d rn (mapP 85 (grpE l l.length)) = mapP 85 (grpE l l.length) := fun d rn => by
    show some (renO _ _ _) = some _
    rw [ren_mp entsP_pure]
  rw [hr]; exact hK
theorem kept_mp {ty d i : Nat} {H Hc : Heap} {rn l : List Nat} {E : List Ent} (h : H[i]? = some (mapP ty E)) (hk : kept H d rn l Hc) : kept H d rn (i :: l) (mapP ty E :: Hc) :=
  ⟨(by show _ = some (some (renO _ _ _)); rw [ren_mp entsP_pure]; exact h), hk⟩
theorem exch_a {r a b : Int} (h : r = a) : exch r a b = b := by unfold exch; rw [if_pos h]
theorem exch_b {r a b : Int} (h : ¬ r = a) (hb : r = b) : exch r a b = a := by unfold exch; rw [if_neg h, if_pos hb]
theorem exch_n {r a b : Int} (h : ¬ r = a) (hb : ¬ r = b) : exch r a b = r := by unfold exch; rw [if_neg h, if_neg hb]
theorem swap_of {l : List Opt} {a b r : Int} {i : Nat} {o : Opt} (h : l[i]? = some o) (he : exch o.place.room a b = r) : swapO l a b i = imgO l i r := by unfold swapO; rw [h]; dsimp only; rw [he]
theorem imgs_no {l : List Opt} {a b : Int} {i : Nat} (hi : i < l.length) (h : ¬ okO l a b i) : ¬ imgsP l a b := fun k => h (k i hi)
theorem ok_none {l : List Opt} {a b : Int} {i : Nat} (h : swapO l a b i = none) : ¬ okO l a b i := fun ⟨j, o, q, h1, _⟩ => by rw [h] at h1; cases h1
theorem ok_ne {l : List Opt} {a b : Int} {i j : Nat} {o q : Opt} (h : swapO l a b i = some j) (ho : l[i]? = some o) (hq : l[j]? = some q) (hne : ¬ o.charges = q.charges) : ¬ okO l a b i := fun ⟨j', o', q', h1, h2, h3, h4⟩ => by
  rw [h] at h1; cases h1
  rw [ho] at h2; cases h2
  rw [hq] at h3; cases h3
  exact hne h4
theorem leq_im {l : List Opt} {a b : Int} (h : ¬ imgsP l a b) : Leq (.tup [.pv (.val (.slice none 0 0)), .pv (.val (.bool false))]) (.tup [.pv (.sl 1 ((imgsV l a b).map natRow)), vbool (pB (imgsP l a b))]) := by
  unfold imgsV
  rw [if_neg (by rw [pB_f h]; simp), pB_f h]
  exact ⟨ALe.tup ⟨ALe.pv PLe.nil, ALe.refl, trivial⟩⟩
theorem c_images0 (l : List Opt) (a b : Int) (hl : l.length ≤ 1000) (hch : ∀ o ∈ l, o.charges.length ≤ 2199023255552) : PCall Tryz.prog 81 [.pv (.sl 6 (l.map Opt.row)), vint .i64 a, vint .i64 b] (fun r => Leq r (.tup [.pv (.sl 1 ((imgsV l a b).map natRow)), vbool (pB (imgsP l a b))])) := by
  refine acall_of tok mixed 69 rfl (fn := Tryz.f81) (c := Tryz.f81.body.getD .skip) (by kernel_rfl) (by kernel_rfl) (by kernel_rfl) rfl 0 rfl ?_
  repeat' (first | ((change vcFun _ _ _ _ _; refine call_index hl ?_)) | refine o1 ?_ | refine o2 ?_ | refine k1 ?_ | refine k2 ?_ | refine k4 ?_ | refine eqv_len_map ?_ | fail)
  generalize hE : grpE l l.length = E
  refine loop_for (fun i : Nat => [(0, .pv (.sl 6 (l.map Opt.row))), (1, vint .i64 a), (2, vint .i64 b), (8, .mp 0), (9, .ms 1 1 0 i), (17, .pv (.sl 6 (l.map Opt.row))), (18, vint .i64 l.length), (19, vint .i64 i)]) (fun i => [mapP 85 E, some ⟨3, 1, false, .p ((imgsL l a b i).map natRow)⟩]) (fun i => i ≤ l.length ∧ (imgsL l a b i).length = i ∧ ∀ j, j < i → okO l a b j) (fun i => l.length - i) 0 ⟨Nat.zero_le _, rfl, fun j hj => by omega⟩ ?_ ?_
  · exact back [0, 1] rfl rfl (kept_mp rfl ⟨rfl, trivial⟩) (by repeat' (first | exact trivial | exact rfl | refine And.intro ?_ ?_))
  intro i ⟨hi, hil, hall⟩
  rcases Nat.lt_or_ge i l.length with hlt | hge
  · obtain ⟨o, ho⟩ := getE hlt
    by_cases hra : o.place.room = a
    · have hsw := swap_of (a := a) (b := b) ho (exch_a hra)
      rcases hj : imgO l i b with _ | j
      · rw [hj] at hsw
        have hno := imgs_no hlt (ok_none hsw)
        repeat' (first | ((change vcFun _ _ _ _ _; refine call_image 0 hE.symm rfl hl hlt ?_; rw [hj])) | refine o1 ?_ | refine o2 ?_ | refine k1 ?_ | refine k2 ?_ | refine k3 ?_ | refine k4 ?_ | refine k6 ?_ | refine k7 ?_ | refine And.intro ?_ ?_ | refine o3 ?_ | refine o4 ?_ | (intro h; first | exact Bool.noConfusion h | exact nz _ h | exact nl h | (simp at h; done) | (simp at h; first | (exfalso; omega) | skip) | skip) | (change retOk _ _ _ _; refine ret_pure rfl trivial ?_) | exact (by kernel_rfl : drawOk _ _ = true) | refine ⟨_, _, (by first | rfl | assumption), at_map (by assumption), ?_⟩ | fail)
        all_goals first
          | (exfalso; omega)
          | exact leq_im hno
      · rw [hj] at hsw
        obtain ⟨q, hq⟩ := getE (img_lt hj)
        have heq := c_eqCh o.charges q.charges (hch o (List.mem_of_getElem? ho)) (hch q (List.mem_of_getElem? hq))
        by_cases hcc : o.charges = q.charges
        · rw [pB_t hcc] at heq
          repeat' (first | ((change vcFun _ _ _ _ _; refine call_image 0 hE.symm rfl hl hlt ?_; rw [hj])) | (refine idx_sl (k := j) (at_map hq) rfl ?_) | refine o1 ?_ | refine o2 ?_ | refine k1 ?_ | refine k2 ?_ | refine k3 ?_ | refine k4 ?_ | refine k6 ?_ | refine And.intro ?_ ?_ | refine o3 ?_ | refine o4 ?_ | (intro h; first | exact Bool.noConfusion h | exact nz _ h | exact nl h | (simp at h; done) | (simp at h; first | (exfalso; omega) | skip) | skip) | (refine (?_ : srcLen _ = rowsLen _); rfl) | exact (by kernel_rfl : drawOk _ _ = true) | refine eqv_wrap (by omega) (by omega) ?_ | refine ⟨_, _, (by first | rfl | assumption), at_map (by assumption), ?_⟩ | (refine (?_ : _ ≤ 140737488355328); simp [rowsLen] <;> omega) | (refine (?_ : _ ≤ 9223372036854775807); simp [rowsLen] <;> omega) | (refine (?_ : _ = rowsLen _); simp [rowsLen] <;> omega) | refine eqv_to _ (app_row rfl) (eqv_to _ app_len ?_) | (change vcFunD _ _ _ _ _; refine callD_eq rfl (by repeat' (first | trivial | refine And.intro ?_ ?_ | (show 0 + _ ≤ List.length _; simp))) ALeL.refl (heq) rfl ?_) | fail)
          all_goals first
            | (exfalso; omega)
            | (have hln : (imgsL l a b i ++ [j]).length = i + 1 := by rw [List.length_append, hil]; rfl
               refine ⟨i + 1, ⟨hlt, by rw [imgs_succ hsw]; exact hln, all_lt_succ hall ⟨j, o, q, hsw, ho, hq, hcc⟩⟩, by omega, ?_⟩
               rw [imgs_succ hsw, hln]
               exact back [0, 4] rfl rfl (kept_mp rfl ⟨rfl, trivial⟩) (by repeat' (first | exact trivial | exact rfl | refine And.intro ?_ ?_)))
        · rw [pB_f hcc] at heq
          have hno := imgs_no hlt (ok_ne hsw ho hq hcc)
          repeat' (first | ((change vcFun _ _ _ _ _; refine call_image 0 hE.symm rfl hl hlt ?_; rw [hj])) | (refine idx_sl (k := j) (at_map hq) rfl ?_) | refine o1 ?_ | refine o2 ?_ | refine k1 ?_ | refine k2 ?_ | refine k3 ?_ | refine k4 ?_ | refine k6 ?_ | refine k7 ?_ | refine And.intro ?_ ?_ | refine o3 ?_ | refine o4 ?_ | (intro h; first | exact Bool.noConfusion h | exact nz _ h | exact nl h | (simp at h; done) | (simp at h; first | (exfalso; omega) | skip) | skip) | (change retOk _ _ _ _; refine ret_pure rfl trivial ?_) | exact (by kernel_rfl : drawOk _ _ = true) | refine ⟨_, _, (by first | rfl | assumption), at_map (by assumption), ?_⟩ | (change vcFunD _ _ _ _ _; refine callD_eq rfl (by repeat' (first | trivial | refine And.intro ?_ ?_ | (show 0 + _ ≤ List.length _; simp))) ALeL.refl (heq) rfl ?_) | fail)
          all_goals first
            | (exfalso; omega)
            | exact leq_im hno
    · by_cases hrb : o.place.room = b
      · have hsw := swap_of (a := a) (b := b) ho (exch_b hra hrb)
        rcases hj : imgO l i a with _ | j
        · rw [hj] at hsw
          have hno := imgs_no hlt (ok_none hsw)
          repeat' (first | ((change vcFun _ _ _ _ _; refine call_image 0 hE.symm rfl hl hlt ?_; rw [hj])) | refine o1 ?_ | refine o2 ?_ | refine k1 ?_ | refine k2 ?_ | refine k3 ?_ | refine k4 ?_ | refine k6 ?_ | refine k7 ?_ | refine And.intro ?_ ?_ | refine o3 ?_ | refine o4 ?_ | (intro h; first | exact Bool.noConfusion h | exact nz _ h | exact nl h | (simp at h; done) | (simp at h; first | (exfalso; omega) | skip) | skip) | (change retOk _ _ _ _; refine ret_pure rfl trivial ?_) | exact (by kernel_rfl : drawOk _ _ = true) | refine ⟨_, _, (by first | rfl | assumption), at_map (by assumption), ?_⟩ | fail)
          all_goals first
            | (exfalso; omega)
            | exact leq_im hno
        · rw [hj] at hsw
          obtain ⟨q, hq⟩ := getE (img_lt hj)
          have heq := c_eqCh o.charges q.charges (hch o (List.mem_of_getElem? ho)) (hch q (List.mem_of_getElem? hq))
          by_cases hcc : o.charges = q.charges
          · rw [pB_t hcc] at heq
            repeat' (first | ((change vcFun _ _ _ _ _; refine call_image 0 hE.symm rfl hl hlt ?_; rw [hj])) | (refine idx_sl (k := j) (at_map hq) rfl ?_) | refine o1 ?_ | refine o2 ?_ | refine k1 ?_ | refine k2 ?_ | refine k3 ?_ | refine k4 ?_ | refine k6 ?_ | refine And.intro ?_ ?_ | refine o3 ?_ | refine o4 ?_ | (intro h; first | exact Bool.noConfusion h | exact nz _ h | exact nl h | (simp at h; done) | (simp at h; first | (exfalso; omega) | skip) | skip) | (refine (?_ : srcLen _ = rowsLen _); rfl) | exact (by kernel_rfl : drawOk _ _ = true) | refine eqv_wrap (by omega) (by omega) ?_ | refine ⟨_, _, (by first | rfl | assumption), at_map (by assumption), ?_⟩ | (refine (?_ : _ ≤ 140737488355328); simp [rowsLen] <;> omega) | (refine (?_ : _ ≤ 9223372036854775807); simp [rowsLen] <;> omega) | (refine (?_ : _ = rowsLen _); simp [rowsLen] <;> omega) | refine eqv_to _ (app_row rfl) (eqv_to _ app_len ?_) | (change vcFunD _ _ _ _ _; refine callD_eq rfl (by repeat' (first | trivial | refine And.intro ?_ ?_ | (show 0 + _ ≤ List.length _; simp))) ALeL.refl (heq) rfl ?_) | fail)
            all_goals first
              | (exfalso; omega)
              | (have hln : (imgsL l a b i ++ [j]).length = i + 1 := by rw [List.length_append, hil]; rfl
                 refine ⟨i + 1, ⟨hlt, by rw [imgs_succ hsw]; exact hln, all_lt_succ hall ⟨j, o, q, hsw, ho, hq, hcc⟩⟩, by omega, ?_⟩
                 rw [imgs_succ hsw, hln]
                 exact back [0, 4] rfl rfl (kept_mp rfl ⟨rfl, trivial⟩) (by repeat' (first | exact trivial | exact rfl | refine And.intro ?_ ?_)))
          · rw [pB_f hcc] at heq
            have hno := imgs_no hlt (ok_ne hsw ho hq hcc)
            repeat' (first | ((change vcFun _ _ _ _ _; refine call_image 0 hE.symm rfl hl hlt ?_; rw [hj])) | (refine idx_sl (k := j) (at_map hq) rfl ?_) | refine o1 ?_ | refine o2 ?_ | refine k1 ?_ | refine k2 ?_ | refine k3 ?_ | refine k4 ?_ | refine k6 ?_ | refine k7 ?_ | refine And.intro ?_ ?_ | refine o3 ?_ | refine o4 ?_ | (intro h; first | exact Bool.noConfusion h | exact nz _ h | exact nl h | (simp at h; done) | (simp at h; first | (exfalso; omega) | skip) | skip) | (change retOk _ _ _ _; refine ret_pure rfl trivial ?_) | exact (by kernel_rfl : drawOk _ _ = true) | refine ⟨_, _, (by first | rfl | assumption), at_map (by assumption), ?_⟩ | (change vcFunD _ _ _ _ _; refine callD_eq rfl (by repeat' (first | trivial | refine And.intro ?_ ?_ | (show 0 + _ ≤ List.length _; simp))) ALeL.refl (heq) rfl ?_) | fail)
            all_goals first
              | (exfalso; omega)
              | exact leq_im hno
      · have hsw := swap_of (a := a) (b := b) ho (exch_n hra hrb)
        rw [img_self ho] at hsw
        have heq := c_eqCh o.charges o.charges (hch o (List.mem_of_getElem? ho)) (hch o (List.mem_of_getElem? ho))
        rw [pB_t rfl] at heq
        repeat' (first | (refine idx_sl (k := i) (at_map ho) rfl ?_) | refine o1 ?_ | refine o2 ?_ | refine k1 ?_ | refine k2 ?_ | refine k3 ?_ | refine k4 ?_ | refine k6 ?_ | refine And.intro ?_ ?_ | refine o3 ?_ | refine o4 ?_ | (intro h; first | exact Bool.noConfusion h | exact nz _ h | exact nl h | (simp at h; done) | (simp at h; first | (exfalso; omega) | skip) | skip) | (refine (?_ : srcLen _ = rowsLen _); rfl) | exact (by kernel_rfl : drawOk _ _ = true) | refine eqv_wrap (by omega) (by omega) ?_ | (refine (?_ : _ ≤ 140737488355328); simp [rowsLen] <;> omega) | (refine (?_ : _ ≤ 9223372036854775807); simp [rowsLen] <;> omega) | (refine (?_ : _ = rowsLen _); simp [rowsLen] <;> omega) | refine eqv_to _ (app_row rfl) (eqv_to _ app_len ?_) | (change vcFunD _ _ _ _ _; refine callD_eq rfl (by repeat' (first | trivial | refine And.intro ?_ ?_ | (show 0 + _ ≤ List.length _; simp))) ALeL.refl (heq) rfl ?_) | fail)
        all_goals first
          | (exfalso; omega)
          | (have hln : (imgsL l a b i ++ [i]).length = i + 1 := by rw [List.length_append, hil]; rfl
             refine ⟨i + 1, ⟨hlt, by rw [imgs_succ hsw]; exact hln, all_lt_succ hall ⟨i, o, o, hsw, ho, ho, rfl⟩⟩, by omega, ?_⟩
             rw [imgs_succ hsw, hln]
             exact back [0, 4] rfl rfl (kept_mp rfl ⟨rfl, trivial⟩) (by repeat' (first | exact trivial | exact rfl | refine And.intro ?_ ?_)))
  · obtain rfl : i = l.length := by omega
    have hok : imgsP l a b := hall
    unfold imgsV
    rw [if_pos (pB_t hok), pB_t hok]
    repeat' (first | refine o1 ?_ | refine o2 ?_ | refine k1 ?_ | refine k2 ?_ | refine k3 ?_ | refine k7 ?_ | refine k8 ?_ | refine And.intro ?_ ?_ | (intro h; first | exact Bool.noConfusion h | exact nz _ h | exact nl h | (simp at h; done) | (simp at h; first | (exfalso; omega) | skip) | skip) | fail)
    change retOk _ _ _ _
    refine ret_pure (r0 := .tup [.pv (.sl 1 ((((imgsL l a b l.length).map natRow).drop 0).take l.length)), vbool true]) rfl ?_ ?_
    · refine ⟨?_, trivial⟩
      show 0 + l.length ≤ _
      rw [List.length_map, hil]; omega
    · rw [List.drop_zero, List.take_of_length_le (by rw [List.length_map, hil]; exact Nat.le_refl _)]
      exact ⟨ALe.refl⟩
theorem c_images (l : List Opt) (a b : Int) (hl : l.length ≤ 1000) (hch : ∀ o ∈ l, o.charges.length ≤ 2199023255552) : PCall Tryz.prog 81 [.pv (.sl 6 (l.map Opt.row)), vint .i64 a, vint .i64 b] (fun r => r = .tup [.pv (.sl 1 ((imgsV l a b).map natRow)), vbool (pB (imgsP l a b))]) := (c_images0 l a b hl hch).weak fun r k => ⟨_, k.le, rfl⟩
end Go.Proofs.YtihpjcmloecaaaaGreat.Cw
/-
  Symmetry: entries of pairs; the orders of loads and counts.
-/
namespace Go.Proofs.YtihpjcmloecaaaaGreat.Cw
open Go Go.Cw Go.Proofs
set_option linter.unusedVariables false
set_option maxRecDepth 100000
set_option maxHeartbeats 8000000
def entZ (m : Model) (p : Pair) (a b : Nat) : Int := (p.table[a * ((m.classes[p.second.toNat]?).getD []).length + b]?).getD 0
theorem entZ_at {m : Model} {p : Pair} {a b : Nat} {x y : List Opt} (hx : m.classes[p.first.toNat]? = some x) (hy : m.classes[p.second.toNat]? = some y) (hp : pairP m p) (ha : a < x.length) (hb : b < y.length) : p.table[a * y.length + b]? = some (entZ m p a b) := by
  obtain ⟨-, -, -, ⟨x', y', h1, h2, h3⟩, -⟩ := hp
  rw [hx] at h1; cases h1
  rw [hy] at h2; cases h2
  have hlt : a * y.length + b < p.table.length := by
    have : (a + 1) * y.length ≤ x.length * y.length := Nat.mul_le_mul_right _ ha
    rw [Nat.add_mul] at this
    omega
  unfold entZ
  rw [hy, List.getElem?_eq_getElem hlt]
  show _ = some ((p.table[a * y.length + b]?).getD 0)
  rw [List.getElem?_eq_getElem hlt]; rfl
theorem c_pentry (m : Model) (p : Pair) (a b : Nat) (l : List Opt) (v : Int) (h1 : 0 ≤ p.second) (hl : m.classes[p.second.toNat]? = some l) (ha : a ≤ 100) (hb : b ≤ 100) (hn : l.length ≤ 100) (hv : p.table[a * l.length + b]? = some v) :
    PCall Tryz.prog 82 [ag m.cells, ag p.row, vint .i64 a, vint .i64 b] (fun r => r = vint .i64 v) := by
  refine acall_of tok mixed 24 rfl (fn := Tryz.f82) (c := Tryz.f82.body.getD .skip) (by kernel_rfl) (by kernel_rfl) (by kernel_rfl) rfl 0 rfl ?_
  have hab : a * l.length ≤ 100 * 100 := Nat.mul_le_mul ha hn
  repeat' (first | (refine idx_sl (k := p.second.toNat) (at_map hl) (by omega) ?_) | (refine eqv_mul (by omega) (by omega) (fun _ _ => ?_)) | (refine idx_sl (k := a * l.length + b) (at_map hv) (by simp) ?_) | refine o1 ?_ | refine o2 ?_ | refine k1 ?_ | refine k2 ?_ | refine k7 ?_ | refine And.intro ?_ ?_ | refine o3 ?_ | refine o4 ?_ | (change retOk _ _ _ _; refine ret_pure rfl trivial ?_) | exact (by kernel_rfl : drawOk _ _ = true) | refine eqv_len_map ?_ | refine eqv_wrap (by omega) (by omega) ?_ | fail)
  all_goals first
    | rfl
theorem c_rentry (m : Model) (p : Pair) (a b : Nat) (l : List Opt) (v : Int) (h1 : 0 ≤ p.second) (hl : m.classes[p.second.toNat]? = some l) (ha : a ≤ 100) (hb : b ≤ 100) (hn : l.length ≤ 100) (hv : p.table[a * l.length + b]? = some v) :
    PCall Tryz.prog 39 [ag m.cells, ag p.row, vint .i64 a, vint .i64 b] (fun r => r = vint .i64 v) := by
  refine acall_of tok mixed 24 rfl (fn := Tryz.f39) (c := Tryz.f39.body.getD .skip) (by kernel_rfl) (by kernel_rfl) (by kernel_rfl) rfl 0 rfl ?_
  have hab : a * l.length ≤ 100 * 100 := Nat.mul_le_mul ha hn
  repeat' (first | (refine idx_sl (k := p.second.toNat) (at_map hl) (by omega) ?_) | (refine eqv_mul (by omega) (by omega) (fun _ _ => ?_)) | (refine idx_sl (k := a * l.length + b) (at_map hv) (by simp) ?_) | refine o1 ?_ | refine o2 ?_ | refine k1 ?_ | refine k2 ?_ | refine k7 ?_ | refine And.intro ?_ ?_ | refine o3 ?_ | refine o4 ?_ | (change retOk _ _ _ _; refine ret_pure rfl trivial ?_) | exact (by kernel_rfl : drawOk _ _ = true) | refine eqv_len_map ?_ | refine eqv_wrap (by omega) (by omega) ?_ | fail)
  all_goals first
    | rfl
def ldC (x y : Load) : Int := orI [cmpI x.cls y.cls, cmpI x.opt y.opt, cmpI x.weight y.weight]
def lexL : List Load → List Load → Int
  | [], [] => 0
  | [], _ :: _ => -1
  | _ :: _, [] => 1
  | x :: a, y :: b => if ldC x y ≠ 0 then ldC x y else lexL a b
def ctC (x y : Count) : Int := orI [cmpI x.rule y.rule, cmpI x.most y.most, cmpI x.penalty y.penalty, lexL x.loads y.loads]
theorem drop_at {α : Type} {l : List α} {i : Nat} {x : α} (h : l[i]? = some x) : l.drop i = x :: l.drop (i + 1) := by
  obtain ⟨hi, rfl⟩ := List.getElem?_eq_some_iff.1 h
  exact List.drop_eq_getElem_cons hi
theorem lex_at {a b : List Load} {i : Nat} {x y : Load} (hx : a[i]? = some x) (hy : b[i]? = some y) : lexL (a.drop i) (b.drop i) = if ldC x y ≠ 0 then ldC x y else lexL (a.drop (i + 1)) (b.drop (i + 1)) := by
  rw [drop_at hx, drop_at hy]; rfl
theorem lex_end1 {a b : List Load} {i : Nat} {x : Load} (hx : a[i]? = some x) (hb : b.length ≤ i) : lexL (a.drop i) (b.drop i) = 1 := by
  rw [drop_at hx, List.drop_eq_nil_of_le hb]; rfl
theorem lex_end2 {a b : List Load} {i : Nat} (ha : a.length ≤ i) (hb : i < b.length) : lexL (a.drop i) (b.drop i) = -1 := by
  obtain ⟨y, hy⟩ := getE hb
  rw [drop_at hy, List.drop_eq_nil_of_le ha]; rfl
theorem lex_end3 {a b : List Load} {i : Nat} (ha : a.length ≤ i) (hb : b.length ≤ i) : lexL (a.drop i) (b.drop i) = 0 := by
  rw [List.drop_eq_nil_of_le ha, List.drop_eq_nil_of_le hb]; rfl
theorem ld_eq {x y : Load} (h1 : x.cls = y.cls) (h2 : x.opt = y.opt) (h3 : x.weight = y.weight) : x = y := by
  obtain ⟨a, b, c⟩ := x
  obtain ⟨d, e, f⟩ := y
  simp only at h1 h2 h3
  subst h1; subst h2; subst h3; rfl
theorem ld_zero {x y : Load} : ldC x y = 0 ↔ x = y := by
  constructor
  · intro h
    have h : x.cls = y.cls ∧ x.opt = y.opt ∧ x.weight = y.weight := by
      simp only [ldC, orI, cmpI] at h
      grind
    exact ld_eq h.1 h.2.1 h.2.2
  · rintro rfl
    simp only [ldC, orI, cmpI]
    grind
theorem lex_zero : ∀ {a b : List Load}, lexL a b = 0 ↔ a = b
  | [], [] => by simp [lexL]
  | [], _ :: _ => by simp [lexL]
  | _ :: _, [] => by simp [lexL]
  | x :: a, y :: b => by
    have ih := lex_zero (a := a) (b := b)
    unfold lexL
    by_cases h : ldC x y = 0
    · rw [if_neg (by simp [h]), ih]
      have := ld_zero.1 h
      subst this; simp
    · rw [if_pos h]
      refine ⟨fun k => absurd k h, fun k => ?_⟩
      injection k with k1 k2
      exact absurd (ld_zero.2 k1) h
theorem ct_zero {x y : Count} : ctC x y = 0 ↔ x = y := by
  constructor
  · intro h
    have h : x.rule = y.rule ∧ x.most = y.most ∧ x.penalty = y.penalty ∧ lexL x.loads y.loads = 0 := by
      simp only [ctC] at h
      generalize lexL x.loads y.loads = z at *
      simp only [orI, cmpI] at h
      grind
    obtain ⟨h1, h2, h3, h4⟩ := h
    have h5 : x.loads = y.loads := lex_zero.1 h4
    clear h4
    obtain ⟨a, b, c, d⟩ := x
    obtain ⟨a', b', c', d'⟩ := y
    simp only at h1 h2 h3 h5
    subst h1; subst h2; subst h3; subst h5; rfl
  · rintro rfl
    have := lex_zero.2 (rfl : x.loads = x.loads)
    simp only [ctC]
    rw [this]
    simp only [orI, cmpI]
    grind
theorem c_loads (x y : Load) : PCall Tryz.prog 115 [ag x.row, ag y.row] (fun r => r = vint .i64 (ldC x y)) := by
  refine acall_of tok mixed 22 rfl (fn := Tryz.f115) (c := Tryz.f115.body.getD .skip) (by kernel_rfl) (by kernel_rfl) (by kernel_rfl) rfl 0 rfl ?_
  repeat' (first | refine o1 ?_ | refine o2 ?_ | refine k1 ?_ | refine k2 ?_ | refine k7 ?_ | refine And.intro ?_ ?_ | refine o3 ?_ | refine o4 ?_ | (change retOk _ _ _ _; refine ret_pure rfl trivial ?_) | exact (by kernel_rfl : drawOk _ _ = true) | (change vcFunD _ _ _ _ _; refine callD_eq rfl (by repeat' (first | trivial | refine And.intro ?_ ?_ | (show 0 + _ ≤ List.length _; simp))) ALeL.refl (c_cmp _ _) rfl ?_) | (change vcFunD _ _ _ _ _; refine callD_eq rfl (by repeat' (first | trivial | refine And.intro ?_ ?_ | (show 0 + _ ≤ List.length _; simp))) ALeL.refl (c_or [cmpI x.cls y.cls, cmpI x.opt y.opt, cmpI x.weight y.weight] (Nat.le_of_ble_eq_true rfl)) rfl ?_) | fail)
  all_goals exact rfl
theorem c_compareL (a b : List Load) (ha : a.length ≤ 100000) (hb : b.length ≤ 100000) : PCall Tryz.prog 117 [.pv (.sl 3 (a.map Load.row)), .pv (.sl 3 (b.map Load.row)), .pv (.fn 115 [])] (fun r => r = vint .i64 (lexL a b)) := by
  refine acall_of tok mixed 39 rfl (fn := Tryz.f117) (c := Tryz.f117.body.getD .skip) (by kernel_rfl) (by kernel_rfl) (by kernel_rfl) rfl 0 rfl ?_
  repeat' (first | refine o1 ?_ | refine o2 ?_ | refine k1 ?_ | refine k2 ?_ | refine k4 ?_ | refine eqv_len_map ?_ | fail)
  refine loop_at (fun i : Nat => [(13, vint .i64 i)]) (fun _ => []) (fun i => i ≤ a.length ∧ lexL (a.drop i) (b.drop i) = lexL a b) (fun i => a.length - i) 0 ⟨Nat.zero_le _, rfl⟩ (by repeat' (first | exact trivial | exact ⟨_, rfl, ALe.refl⟩ | refine And.intro ?_ ?_)) (by repeat' (first | exact trivial)) ?_
  intro i ⟨hi, hlx⟩
  rw [← hlx]
  rcases Nat.lt_or_ge i a.length with hlt | hge
  · obtain ⟨x, hx⟩ := getE hlt
    rcases Nat.lt_or_ge i b.length with hlb | hgb
    · obtain ⟨y, hy⟩ := getE hlb
      have hc := c_loads x y
      have hl := lex_at hx hy
      generalize ldC x y = z at *
      repeat' (first | refine o1 ?_ | refine o2 ?_ | refine k1 ?_ | refine k2 ?_ | refine k3 ?_ | refine k4 ?_ | refine k6 ?_ | refine k7 ?_ | refine And.intro ?_ ?_ | (intro h; first | exact Bool.noConfusion h | exact nz _ h | exact nl h | (simp at h; done) | (simp at h; first | (exfalso; omega) | skip) | skip) | (change retOk _ _ _ _; refine ret_pure rfl trivial ?_) | exact (by kernel_rfl : drawOk _ _ = true) | refine eqv_len_map ?_ | refine eqv_wrap (by omega) (by omega) ?_ | refine ⟨_, _, (by first | rfl | assumption), at_map (by assumption), ?_⟩ | (change vcFun _ _ (_ ++ pvs _) _ _; refine call_cap rfl (by repeat' (first | trivial | refine And.intro ?_ ?_ | (show 0 + _ ≤ List.length _; simp))) (hc) rfl ?_) | fail)
      all_goals first
        | (rw [hl, if_pos (by assumption)]; rfl)
        | exact ⟨i + 1, ⟨by omega, by rw [hl, if_neg (by omega)]⟩, by omega, back [] rfl rfl trivial (by repeat' (first | exact trivial | exact rfl | refine And.intro ?_ ?_))⟩
    · have hl := lex_end1 hx hgb
      repeat' (first | refine o1 ?_ | refine o2 ?_ | refine k1 ?_ | refine k2 ?_ | refine k3 ?_ | refine k4 ?_ | refine k6 ?_ | refine k7 ?_ | refine And.intro ?_ ?_ | (intro h; first | exact Bool.noConfusion h | exact nz _ h | exact nl h | (simp at h; done) | (simp at h; first | (exfalso; omega) | skip) | skip) | (change retOk _ _ _ _; refine ret_pure rfl trivial ?_) | exact (by kernel_rfl : drawOk _ _ = true) | refine eqv_len_map ?_ | refine ⟨_, _, (by first | rfl | assumption), at_map (by assumption), ?_⟩ | fail)
      all_goals first
        | (rw [hl]; rfl)
  · obtain rfl : i = a.length := by omega
    rcases Nat.lt_or_ge a.length b.length with hlb | hgb
    · have hl := lex_end2 (Nat.le_refl _) hlb
      repeat' (first | refine o1 ?_ | refine o2 ?_ | refine k1 ?_ | refine k2 ?_ | refine k3 ?_ | refine k7 ?_ | refine k8 ?_ | refine And.intro ?_ ?_ | (intro h; first | exact Bool.noConfusion h | exact nz _ h | exact nl h | (simp at h; done) | (simp at h; first | (exfalso; omega) | skip) | skip) | (change retOk _ _ _ _; refine ret_pure rfl trivial ?_) | refine eqv_len_map ?_ | fail)
      all_goals first
        | (exfalso; omega)
        | (rw [hl]; rfl)
    · have hl := lex_end3 (Nat.le_refl _) hgb
      repeat' (first | refine o1 ?_ | refine o2 ?_ | refine k1 ?_ | refine k2 ?_ | refine k3 ?_ | refine k6 ?_ | refine k7 ?_ | refine k8 ?_ | refine And.intro ?_ ?_ | (intro h; first | exact Bool.noConfusion h | exact nz _ h | exact nl h | (simp at h; done) | (simp at h; first | (exfalso; omega) | skip) | skip) | (change retOk _ _ _ _; refine ret_pure rfl trivial ?_) | refine eqv_len_map ?_ | fail)
      all_goals first
        | (exfalso; omega)
        | (rw [hl]; rfl)
theorem c_order22 (x y : Count) (hx : x.loads.length ≤ 100000) (hy : y.loads.length ≤ 100000) : PCall Tryz.prog 88 [ag x.row, ag y.row] (fun r => r = vint .i64 (ctC x y)) := by
  refine acall_of tok mixed 27 rfl (fn := Tryz.f88) (c := Tryz.f88.body.getD .skip) (by kernel_rfl) (by kernel_rfl) (by kernel_rfl) rfl 0 rfl ?_
  repeat' (first | refine o1 ?_ | refine o2 ?_ | refine k1 ?_ | refine k2 ?_ | refine k7 ?_ | refine And.intro ?_ ?_ | refine o3 ?_ | refine o4 ?_ | (change retOk _ _ _ _; refine ret_pure rfl trivial ?_) | exact (by kernel_rfl : drawOk _ _ = true) | (change vcFunD _ _ _ _ _; refine callD_eq rfl (by repeat' (first | trivial | refine And.intro ?_ ?_ | (show 0 + _ ≤ List.length _; simp))) ALeL.refl (c_cmp _ _) rfl ?_) | (change vcFunD _ _ _ _ _; refine callD_eq rfl (by repeat' (first | trivial | refine And.intro ?_ ?_ | (show 0 + _ ≤ List.length _; simp))) ALeL.refl (c_compareL x.loads y.loads hx hy) rfl ?_) | (change vcFunD _ _ _ _ _; refine callD_eq rfl (by repeat' (first | trivial | refine And.intro ?_ ?_ | (show 0 + _ ≤ List.length _; simp))) ALeL.refl (c_or [cmpI x.rule y.rule, cmpI x.most y.most, cmpI x.penalty y.penalty, lexL x.loads y.loads] (Nat.le_of_ble_eq_true rfl)) rfl ?_) | fail)
  all_goals exact rfl
theorem c_swap3 (x y : Count) (hx : x.loads.length ≤ 100000) (hy : y.loads.length ≤ 100000) : PCall Tryz.prog 87 [ag x.row, ag y.row] (fun r => r = vbool (pB (x = y))) := by
  refine acall_of tok mixed 9 rfl (fn := Tryz.f87) (c := Tryz.f87.body.getD .skip) (by kernel_rfl) (by kernel_rfl) (by kernel_rfl) rfl 0 rfl ?_
  have hc := c_order22 x y hx hy
  have hz := ct_zero (x := x) (y := y)
  generalize ctC x y = z at *
  repeat' (first | refine o1 ?_ | refine o2 ?_ | refine k1 ?_ | refine k2 ?_ | refine k7 ?_ | (change retOk _ _ _ _; refine ret_pure rfl trivial ?_) | (change vcFun _ _ _ _ _; refine call_eq rfl (by repeat' (first | trivial | refine And.intro ?_ ?_ | (show 0 + _ ≤ List.length _; simp))) ALeL.refl (hc) rfl ?_) | fail)
  all_goals first
    | exact congrArg vbool (pB_t (hz.1 (by assumption))).symm
    | exact congrArg vbool (pB_f fun k => absurd (hz.2 k) (by assumption)).symm
    | exact congrArg vbool (pB_eq (by simp_all))
theorem c_swap1 (x : Load) : PCall Tryz.prog 84 [ag x.row] (fun r => r = vint .i64 x.opt) := by
  refine acall_of tok mixed 5 rfl (fn := Tryz.f84) (c := Tryz.f84.body.getD .skip) (by kernel_rfl) (by kernel_rfl) (by kernel_rfl) rfl 0 rfl ?_
  repeat' (first | refine o1 ?_ | refine o2 ?_ | refine k1 ?_ | refine k2 ?_ | refine k7 ?_ | (change retOk _ _ _ _; refine ret_pure rfl trivial ?_) | fail)
  all_goals exact rfl
def natsRow (l : List Nat) : List PV := [.sl 1 (l.map natRow)]
theorem c_swap2 (V : List (List Nat)) (x : Load) (v : List Nat) (j : Nat) (h1 : 0 ≤ x.cls) (h2 : 0 ≤ x.opt) (hv : V[x.cls.toNat]? = some v) (hj : v[x.opt.toNat]? = some j) : PCall Tryz.prog 85 [ag x.row, .pv (.ia [.sl 1 (V.map natsRow)])] (fun r => r = vint .i64 j) := by
  refine acall_of tok mixed 13 rfl (fn := Tryz.f85) (c := Tryz.f85.body.getD .skip) (by kernel_rfl) (by kernel_rfl) (by kernel_rfl) rfl 0 rfl ?_
  repeat' (first | (refine idx_sl (k := x.cls.toNat) (at_map hv) (by omega) ?_) | (refine idx_sl (k := x.opt.toNat) (at_map hj) (by omega) ?_) | refine o1 ?_ | refine o2 ?_ | refine k1 ?_ | refine k2 ?_ | refine k7 ?_ | refine And.intro ?_ ?_ | refine o3 ?_ | refine o4 ?_ | (change retOk _ _ _ _; refine ret_pure rfl trivial ?_) | exact (by kernel_rfl : drawOk _ _ = true) | fail)
  all_goals exact rfl
theorem c_equalC (a b : List Count) (ha : a.length ≤ 100000) (hb : b.length ≤ 100000) (hal : ∀ c ∈ a, c.loads.length ≤ 100000) (hbl : ∀ c ∈ b, c.loads.length ≤ 100000) : PCall Tryz.prog 86 [.pv (.sl 4 (a.map Count.row)), .pv (.sl 4 (b.map Count.row)), .pv (.fn 87 [])] (fun r => r = vbool (pB (a = b))) := by
  refine acall_of tok mixed 32 rfl (fn := Tryz.f86) (c := Tryz.f86.body.getD .skip) (by kernel_rfl) (by kernel_rfl) (by kernel_rfl) rfl 0 rfl ?_
  repeat' (first | refine o1 ?_ | refine o2 ?_ | refine k1 ?_ | refine k2 ?_ | refine k3 ?_ | refine k4 ?_ | refine k6 ?_ | refine k7 ?_ | refine And.intro ?_ ?_ | (intro h; first | exact Bool.noConfusion h | exact nz _ h | exact nl h | (simp at h; done) | (simp at h; first | (exfalso; omega) | skip) | skip) | (change retOk _ _ _ _; refine ret_pure rfl trivial ?_) | refine eqv_len_map ?_ | fail)
  · exact congrArg vbool (pB_f fun e => by subst e; simp_all).symm
  · have hl : a.length = b.length := by omega
    refine loop_at (fun i : Nat => [(17, vint .i64 i)]) (fun _ => []) (fun i => i ≤ a.length ∧ ∀ j, j < i → ∀ x y, a[j]? = some x → b[j]? = some y → x = y) (fun i => a.length - i) 0 ⟨Nat.zero_le _, fun j hj => by omega⟩ (by repeat' (first | exact trivial | exact ⟨_, rfl, ALe.refl⟩ | refine And.intro ?_ ?_)) (by repeat' (first | exact trivial)) ?_
    intro i ⟨hi, hall⟩
    rcases Nat.lt_or_ge i a.length with hlt | hge
    · obtain ⟨x, hx⟩ := getE hlt
      obtain ⟨y, hy⟩ := getE (show i < b.length by omega)
      have hc := c_swap3 x y (hal x (List.mem_of_getElem? hx)) (hbl y (List.mem_of_getElem? hy))
      by_cases hxy : x = y
      · rw [pB_t hxy] at hc
        repeat' (first | refine o1 ?_ | refine o2 ?_ | refine k1 ?_ | refine k2 ?_ | refine k3 ?_ | refine k4 ?_ | refine k6 ?_ | refine And.intro ?_ ?_ | (intro h; first | exact Bool.noConfusion h | exact nz _ h | exact nl h | (simp at h; done) | (simp at h; first | (exfalso; omega) | skip) | skip) | exact (by kernel_rfl : drawOk _ _ = true) | refine eqv_wrap (by omega) (by omega) ?_ | refine ⟨_, _, (by first | rfl | assumption), at_map (by assumption), ?_⟩ | (change vcFun _ _ (_ ++ pvs _) _ _; refine call_cap rfl (by repeat' (first | trivial | refine And.intro ?_ ?_ | (show 0 + _ ≤ List.length _; simp))) (hc) rfl ?_) | fail)
        all_goals first
          | exact ⟨i + 1, ⟨by omega, all_lt_succ hall fun x' y' q1 q2 => by rw [hx] at q1; cases q1; rw [hy] at q2; cases q2; exact hxy⟩, by omega, back [] rfl rfl trivial (by repeat' (first | exact trivial | exact rfl | refine And.intro ?_ ?_))⟩
      · rw [pB_f hxy] at hc
        repeat' (first | refine o1 ?_ | refine o2 ?_ | refine k1 ?_ | refine k2 ?_ | refine k3 ?_ | refine k4 ?_ | refine k6 ?_ | refine k7 ?_ | refine And.intro ?_ ?_ | (intro h; first | exact Bool.noConfusion h | exact nz _ h | exact nl h | (simp at h; done) | (simp at h; first | (exfalso; omega) | skip) | skip) | (change retOk _ _ _ _; refine ret_pure rfl trivial ?_) | exact (by kernel_rfl : drawOk _ _ = true) | refine ⟨_, _, (by first | rfl | assumption), at_map (by assumption), ?_⟩ | (change vcFun _ _ (_ ++ pvs _) _ _; refine call_cap rfl (by repeat' (first | trivial | refine And.intro ?_ ?_ | (show 0 + _ ≤ List.length _; simp))) (hc) rfl ?_) | fail)
        all_goals first
          | exact congrArg vbool (pB_f fun e => hxy (by subst e; rw [hx] at hy; injection hy)).symm
    · repeat' (first | refine o1 ?_ | refine o2 ?_ | refine k1 ?_ | refine k2 ?_ | refine k3 ?_ | refine k7 ?_ | refine k8 ?_ | refine And.intro ?_ ?_ | (intro h; first | exact Bool.noConfusion h | exact nz _ h | exact nl h | (simp at h; done) | (simp at h; first | (exfalso; omega) | skip) | skip) | (change retOk _ _ _ _; refine ret_pure rfl trivial ?_) | fail)
      exact congrArg vbool (pB_t (lists_eq hl fun j hj => hall j (by omega))).symm
end Go.Proofs.YtihpjcmloecaaaaGreat.Cw
/-
  The library's sort of loads, counts and ints, and its compact of ints, laid at this seat (printed by tools/mkls.py).
-/
namespace Go.Proofs.YtihpjcmloecaaaaGreat.Cw
open Go Go.Cw Go.Proofs
set_option maxRecDepth 100000
def layLoad_ren : Go.Shelf.Ren := ⟨fun | 6 => 114 | 15 => 119 | 14 => 122 | 28 => 133 | 29 => 134 | 20 => 135 | 21 => 136 | 22 => 137 | 23 => 138 | 24 => 139 | 25 => 140 | 26 => 141 | 27 => 142 | 46 => 156 | 47 => 152 | 48 => 153 | 49 => 157 | 50 => 158 | 57 => 163 | n => n, fun | 22 => 76 | 24 => 102 | 25 => 149 | 3 => 3 | 39 => 154 | 0 => 0 | 53 => 166 | 55 => 168 | 4 => 4 | 46 => 160 | 45 => 159 | 50 => 87 | 5 => 5 | 9 => 9 | 66 => 179 | 70 => 183 | 76 => 189 | 77 => 190 | n => n, fun | n => n⟩
theorem layLoad : Go.Proofs.SlLaysF0.n6 Tryz.prog layLoad_ren where
  mixed := by kernel_rfl
  f6 := ⟨"slices.SortFunc[[]timetable/api.Load,timetable/api.Load]", by decide, Tryz.func114.trans (congrArg some (by kernel_rfl))⟩
  f14 := ⟨"slices.pdqsortCmpFunc[timetable/api.Load]", by decide, Tryz.func122.trans (congrArg some (by kernel_rfl))⟩
  f15 := Tryz.func119.trans (congrArg some (by kernel_rfl))
  f20 := ⟨"slices.insertionSortCmpFunc[timetable/api.Load]", by decide, Tryz.func135.trans (congrArg some (by kernel_rfl))⟩
  f21 := ⟨"slices.heapSortCmpFunc[timetable/api.Load]", by decide, Tryz.func136.trans (congrArg some (by kernel_rfl))⟩
  f22 := ⟨"slices.breakPatternsCmpFunc[timetable/api.Load]", by decide, Tryz.func137.trans (congrArg some (by kernel_rfl))⟩
  f23 := ⟨"slices.choosePivotCmpFunc[timetable/api.Load]", by decide, Tryz.func138.trans (congrArg some (by kernel_rfl))⟩
  f24 := ⟨"slices.reverseRangeCmpFunc[timetable/api.Load]", by decide, Tryz.func139.trans (congrArg some (by kernel_rfl))⟩
  f25 := ⟨"slices.partialInsertionSortCmpFunc[timetable/api.Load]", by decide, Tryz.func140.trans (congrArg some (by kernel_rfl))⟩
  f26 := ⟨"slices.partitionEqualCmpFunc[timetable/api.Load]", by decide, Tryz.func141.trans (congrArg some (by kernel_rfl))⟩
  f27 := ⟨"slices.partitionCmpFunc[timetable/api.Load]", by decide, Tryz.func142.trans (congrArg some (by kernel_rfl))⟩
  f28 := Tryz.func133.trans (congrArg some (by kernel_rfl))
  f29 := Tryz.func134.trans (congrArg some (by kernel_rfl))
  f46 := ⟨"slices.siftDownCmpFunc[timetable/api.Load]", by decide, Tryz.func156.trans (congrArg some (by kernel_rfl))⟩
  f47 := Tryz.func152.trans (congrArg some (by kernel_rfl))
  f48 := Tryz.func153.trans (congrArg some (by kernel_rfl))
  f49 := ⟨"slices.medianAdjacentCmpFunc[timetable/api.Load]", by decide, Tryz.func157.trans (congrArg some (by kernel_rfl))⟩
  f50 := ⟨"slices.medianCmpFunc[timetable/api.Load]", by decide, Tryz.func158.trans (congrArg some (by kernel_rfl))⟩
  f57 := ⟨"slices.order2CmpFunc[timetable/api.Load]", by decide, Tryz.func163.trans (congrArg some (by kernel_rfl))⟩
  t0 := Tryz.underlying0
  a0 := Tryz.isAgg0
  z0 := Tryz.sizeOf0
  v0 := Tryz.zeroValue0
  t3 := Tryz.underlying3
  a3 := Tryz.isAgg3
  z3 := Tryz.sizeOf3
  v3 := Tryz.zeroValue3
  t4 := Tryz.underlying4
  a4 := Tryz.isAgg4
  z4 := Tryz.sizeOf4
  v4 := Tryz.zeroValue4
  t5 := Tryz.underlying5
  a5 := Tryz.isAgg5
  z5 := Tryz.sizeOf5
  v5 := Tryz.zeroValue5
  t9 := Tryz.underlying9
  a9 := Tryz.isAgg9
  z9 := Tryz.sizeOf9
  v9 := Tryz.zeroValue9
  t22 := Tryz.underlying76
  a22 := Tryz.isAgg76
  z22 := Tryz.sizeOf76
  v22 := Tryz.zeroValue76
  t25 := Tryz.underlying149
  a25 := Tryz.isAgg149
  z25 := Tryz.sizeOf149
  v25 := Tryz.zeroValue149
  t39 := Tryz.underlying154
  a39 := Tryz.isAgg154
  z39 := Tryz.sizeOf154
  v39 := Tryz.zeroValue154
  t45 := Tryz.underlying159
  a45 := Tryz.isAgg159
  z45 := Tryz.sizeOf159
  v45 := Tryz.zeroValue159
  t46 := Tryz.underlying160
  a46 := Tryz.isAgg160
  z46 := Tryz.sizeOf160
  v46 := Tryz.zeroValue160
  t50 := Tryz.underlying87
  a50 := Tryz.isAgg87
  z50 := Tryz.sizeOf87
  v50 := Tryz.zeroValue87
  t53 := Tryz.underlying166
  a53 := Tryz.isAgg166
  z53 := Tryz.sizeOf166
  v53 := Tryz.zeroValue166
  t55 := Tryz.underlying168
  a55 := Tryz.isAgg168
  z55 := Tryz.sizeOf168
  v55 := Tryz.zeroValue168
  t66 := Tryz.underlying179
  a66 := Tryz.isAgg179
  z66 := Tryz.sizeOf179
  v66 := Tryz.zeroValue179
  t70 := Tryz.underlying183
  a70 := Tryz.isAgg183
  z70 := Tryz.sizeOf183
  v70 := Tryz.zeroValue183
  t76 := Tryz.underlying189
  a76 := Tryz.isAgg189
  z76 := Tryz.sizeOf189
  v76 := Tryz.zeroValue189
  t77 := Tryz.underlying190
  a77 := Tryz.isAgg190
  z77 := Tryz.sizeOf190
  v77 := Tryz.zeroValue190
def layCount_ren : Go.Shelf.Ren := ⟨fun | 6 => 116 | 15 => 119 | 14 => 123 | 28 => 133 | 29 => 134 | 20 => 143 | 21 => 144 | 22 => 145 | 23 => 146 | 24 => 147 | 25 => 148 | 26 => 149 | 27 => 150 | 46 => 159 | 47 => 152 | 48 => 153 | 49 => 160 | 50 => 161 | 57 => 164 | n => n, fun | 22 => 27 | 24 => 78 | 25 => 125 | 3 => 3 | 39 => 154 | 0 => 0 | 53 => 166 | 55 => 168 | 4 => 4 | 46 => 160 | 45 => 159 | 50 => 87 | 5 => 5 | 9 => 9 | 66 => 179 | 70 => 183 | 76 => 189 | 77 => 190 | n => n, fun | n => n⟩
theorem layCount : Go.Proofs.SlLaysF0.n6 Tryz.prog layCount_ren where
  mixed := by kernel_rfl
  f6 := ⟨"slices.SortFunc[[]timetable/api.Count,timetable/api.Count]", by decide, Tryz.func116.trans (congrArg some (by kernel_rfl))⟩
  f14 := ⟨"slices.pdqsortCmpFunc[timetable/api.Count]", by decide, Tryz.func123.trans (congrArg some (by kernel_rfl))⟩
  f15 := Tryz.func119.trans (congrArg some (by kernel_rfl))
  f20 := ⟨"slices.insertionSortCmpFunc[timetable/api.Count]", by decide, Tryz.func143.trans (congrArg some (by kernel_rfl))⟩
  f21 := ⟨"slices.heapSortCmpFunc[timetable/api.Count]", by decide, Tryz.func144.trans (congrArg some (by kernel_rfl))⟩
  f22 := ⟨"slices.breakPatternsCmpFunc[timetable/api.Count]", by decide, Tryz.func145.trans (congrArg some (by kernel_rfl))⟩
  f23 := ⟨"slices.choosePivotCmpFunc[timetable/api.Count]", by decide, Tryz.func146.trans (congrArg some (by kernel_rfl))⟩
  f24 := ⟨"slices.reverseRangeCmpFunc[timetable/api.Count]", by decide, Tryz.func147.trans (congrArg some (by kernel_rfl))⟩
  f25 := ⟨"slices.partialInsertionSortCmpFunc[timetable/api.Count]", by decide, Tryz.func148.trans (congrArg some (by kernel_rfl))⟩
  f26 := ⟨"slices.partitionEqualCmpFunc[timetable/api.Count]", by decide, Tryz.func149.trans (congrArg some (by kernel_rfl))⟩
  f27 := ⟨"slices.partitionCmpFunc[timetable/api.Count]", by decide, Tryz.func150.trans (congrArg some (by kernel_rfl))⟩
  f28 := Tryz.func133.trans (congrArg some (by kernel_rfl))
  f29 := Tryz.func134.trans (congrArg some (by kernel_rfl))
  f46 := ⟨"slices.siftDownCmpFunc[timetable/api.Count]", by decide, Tryz.func159.trans (congrArg some (by kernel_rfl))⟩
  f47 := Tryz.func152.trans (congrArg some (by kernel_rfl))
  f48 := Tryz.func153.trans (congrArg some (by kernel_rfl))
  f49 := ⟨"slices.medianAdjacentCmpFunc[timetable/api.Count]", by decide, Tryz.func160.trans (congrArg some (by kernel_rfl))⟩
  f50 := ⟨"slices.medianCmpFunc[timetable/api.Count]", by decide, Tryz.func161.trans (congrArg some (by kernel_rfl))⟩
  f57 := ⟨"slices.order2CmpFunc[timetable/api.Count]", by decide, Tryz.func164.trans (congrArg some (by kernel_rfl))⟩
  t0 := Tryz.underlying0
  a0 := Tryz.isAgg0
  z0 := Tryz.sizeOf0
  v0 := Tryz.zeroValue0
  t3 := Tryz.underlying3
  a3 := Tryz.isAgg3
  z3 := Tryz.sizeOf3
  v3 := Tryz.zeroValue3
  t4 := Tryz.underlying4
  a4 := Tryz.isAgg4
  z4 := Tryz.sizeOf4
  v4 := Tryz.zeroValue4
  t5 := Tryz.underlying5
  a5 := Tryz.isAgg5
  z5 := Tryz.sizeOf5
  v5 := Tryz.zeroValue5
  t9 := Tryz.underlying9
  a9 := Tryz.isAgg9
  z9 := Tryz.sizeOf9
  v9 := Tryz.zeroValue9
  t22 := Tryz.underlying27
  a22 := Tryz.isAgg27
  z22 := Tryz.sizeOf27
  v22 := Tryz.zeroValue27
  t25 := Tryz.underlying125
  a25 := Tryz.isAgg125
  z25 := Tryz.sizeOf125
  v25 := Tryz.zeroValue125
  t39 := Tryz.underlying154
  a39 := Tryz.isAgg154
  z39 := Tryz.sizeOf154
  v39 := Tryz.zeroValue154
  t45 := Tryz.underlying159
  a45 := Tryz.isAgg159
  z45 := Tryz.sizeOf159
  v45 := Tryz.zeroValue159
  t46 := Tryz.underlying160
  a46 := Tryz.isAgg160
  z46 := Tryz.sizeOf160
  v46 := Tryz.zeroValue160
  t50 := Tryz.underlying87
  a50 := Tryz.isAgg87
  z50 := Tryz.sizeOf87
  v50 := Tryz.zeroValue87
  t53 := Tryz.underlying166
  a53 := Tryz.isAgg166
  z53 := Tryz.sizeOf166
  v53 := Tryz.zeroValue166
  t55 := Tryz.underlying168
  a55 := Tryz.isAgg168
  z55 := Tryz.sizeOf168
  v55 := Tryz.zeroValue168
  t66 := Tryz.underlying179
  a66 := Tryz.isAgg179
  z66 := Tryz.sizeOf179
  v66 := Tryz.zeroValue179
  t70 := Tryz.underlying183
  a70 := Tryz.isAgg183
  z70 := Tryz.sizeOf183
  v70 := Tryz.zeroValue183
  t76 := Tryz.underlying189
  a76 := Tryz.isAgg189
  z76 := Tryz.sizeOf189
  v76 := Tryz.zeroValue189
  t77 := Tryz.underlying190
  a77 := Tryz.isAgg190
  z77 := Tryz.sizeOf190
  v77 := Tryz.zeroValue190
def laySortI_ren : Go.Shelf.Ren := ⟨fun | 189 => 90 | 125 => 119 | 257 => 118 | 128 => 133 | 129 => 134 | 294 => 124 | 295 => 125 | 296 => 126 | 297 => 127 | 298 => 128 | 299 => 129 | 216 => 130 | 300 => 131 | 301 => 132 | 328 => 151 | 329 => 152 | 330 => 153 | 331 => 154 | 332 => 155 | 215 => 121 | 343 => 162 | n => n, fun | 28 => 22 | 3 => 3 | 46 => 154 | 0 => 0 | 51 => 166 | 53 => 168 | 4 => 4 | 183 => 160 | 182 => 159 | 131 => 87 | 5 => 5 | 9 => 9 | 218 => 179 | 222 => 183 | 228 => 189 | 229 => 190 | n => n, fun | n => n⟩
theorem laySortI : Go.Proofs.Lays.n189 Tryz.prog laySortI_ren where
  mixed := by kernel_rfl
  f125 := Tryz.func119.trans (congrArg some (by kernel_rfl))
  f128 := Tryz.func133.trans (congrArg some (by kernel_rfl))
  f129 := Tryz.func134.trans (congrArg some (by kernel_rfl))
  f189 := Tryz.func90.trans (congrArg some (by kernel_rfl))
  f215 := Tryz.func121.trans (congrArg some (by kernel_rfl))
  f216 := Tryz.func130.trans (congrArg some (by kernel_rfl))
  f257 := Tryz.func118.trans (congrArg some (by kernel_rfl))
  f294 := Tryz.func124.trans (congrArg some (by kernel_rfl))
  f295 := Tryz.func125.trans (congrArg some (by kernel_rfl))
  f296 := Tryz.func126.trans (congrArg some (by kernel_rfl))
  f297 := Tryz.func127.trans (congrArg some (by kernel_rfl))
  f298 := Tryz.func128.trans (congrArg some (by kernel_rfl))
  f299 := Tryz.func129.trans (congrArg some (by kernel_rfl))
  f300 := Tryz.func131.trans (congrArg some (by kernel_rfl))
  f301 := Tryz.func132.trans (congrArg some (by kernel_rfl))
  f328 := Tryz.func151.trans (congrArg some (by kernel_rfl))
  f329 := Tryz.func152.trans (congrArg some (by kernel_rfl))
  f330 := Tryz.func153.trans (congrArg some (by kernel_rfl))
  f331 := Tryz.func154.trans (congrArg some (by kernel_rfl))
  f332 := Tryz.func155.trans (congrArg some (by kernel_rfl))
  f343 := Tryz.func162.trans (congrArg some (by kernel_rfl))
  t0 := Tryz.underlying0
  a0 := Tryz.isAgg0
  z0 := Tryz.sizeOf0
  v0 := Tryz.zeroValue0
  t3 := Tryz.underlying3
  a3 := Tryz.isAgg3
  z3 := Tryz.sizeOf3
  v3 := Tryz.zeroValue3
  t4 := Tryz.underlying4
  a4 := Tryz.isAgg4
  z4 := Tryz.sizeOf4
  v4 := Tryz.zeroValue4
  t5 := Tryz.underlying5
  a5 := Tryz.isAgg5
  z5 := Tryz.sizeOf5
  v5 := Tryz.zeroValue5
  t9 := Tryz.underlying9
  a9 := Tryz.isAgg9
  z9 := Tryz.sizeOf9
  v9 := Tryz.zeroValue9
  t28 := Tryz.underlying22
  a28 := Tryz.isAgg22
  z28 := Tryz.sizeOf22
  v28 := Tryz.zeroValue22
  t46 := Tryz.underlying154
  a46 := Tryz.isAgg154
  z46 := Tryz.sizeOf154
  v46 := Tryz.zeroValue154
  t51 := Tryz.underlying166
  a51 := Tryz.isAgg166
  z51 := Tryz.sizeOf166
  v51 := Tryz.zeroValue166
  t53 := Tryz.underlying168
  a53 := Tryz.isAgg168
  z53 := Tryz.sizeOf168
  v53 := Tryz.zeroValue168
  t131 := Tryz.underlying87
  a131 := Tryz.isAgg87
  z131 := Tryz.sizeOf87
  v131 := Tryz.zeroValue87
  t182 := Tryz.underlying159
  a182 := Tryz.isAgg159
  z182 := Tryz.sizeOf159
  v182 := Tryz.zeroValue159
  t183 := Tryz.underlying160
  a183 := Tryz.isAgg160
  z183 := Tryz.sizeOf160
  v183 := Tryz.zeroValue160
  t218 := Tryz.underlying179
  a218 := Tryz.isAgg179
  z218 := Tryz.sizeOf179
  v218 := Tryz.zeroValue179
  t222 := Tryz.underlying183
  a222 := Tryz.isAgg183
  z222 := Tryz.sizeOf183
  v222 := Tryz.zeroValue183
  t228 := Tryz.underlying189
  a228 := Tryz.isAgg189
  z228 := Tryz.sizeOf189
  v228 := Tryz.zeroValue189
  t229 := Tryz.underlying190
  a229 := Tryz.isAgg190
  z229 := Tryz.sizeOf190
  v229 := Tryz.zeroValue190
def layCompI_ren : Go.Shelf.Ren := ⟨fun | 20 => 91 | n => n, fun | 22 => 22 | 3 => 3 | 4 => 4 | 0 => 0 | n => n, fun | n => n⟩
theorem layCompI : Go.Proofs.Lays2.n20 Tryz.prog layCompI_ren where
  mixed := by kernel_rfl
  f20 := Tryz.func91.trans (congrArg some (by kernel_rfl))
  t0 := Tryz.underlying0
  a0 := Tryz.isAgg0
  z0 := Tryz.sizeOf0
  v0 := Tryz.zeroValue0
  t3 := Tryz.underlying3
  a3 := Tryz.isAgg3
  z3 := Tryz.sizeOf3
  v3 := Tryz.zeroValue3
  t4 := Tryz.underlying4
  a4 := Tryz.isAgg4
  z4 := Tryz.sizeOf4
  v4 := Tryz.zeroValue4
  t22 := Tryz.underlying22
  a22 := Tryz.isAgg22
  z22 := Tryz.sizeOf22
  v22 := Tryz.zeroValue22
  i3 := by kernel_rfl
theorem ent {f : FuncId} {fn : Func} (h : Tryz.prog.funcs[f]? = some fn) (h1 : (fn.name == "runtime.NumGoroutine") = false) (h2 : fn.body.isNone = false) : Enterable Tryz.prog f := ⟨fn, h, h1, h2⟩
theorem c_sortI (ss : List Int) (hne : ss ≠ []) (hl : ss.length ≤ 1000000000000) :
    ACall Tryz.prog 90 [.ms 0 1 0 ss.length] [some ⟨3, 1, false, .p (ss.map intRow)⟩] fun r H' => r = .tup [] ∧ H' = [some ⟨3, 1, false, .p ((sortI ss).map intRow)⟩] :=
  acall_sortI laySortI (ent Tryz.func90 (by kernel_rfl) (by kernel_rfl)) 3 ss hne (by omega)
theorem c_sortI0 : PCall Tryz.prog 90 [.pv (.val (.slice none 0 0))] (fun r => r = .tup []) := acall_sortI0 laySortI (ent Tryz.func90 (by kernel_rfl) (by kernel_rfl))
theorem c_compactI (ss : List Int) (hne : ss ≠ []) (hl : ss.length ≤ 1000000000000) :
    ACall Tryz.prog 91 [.ms 0 1 0 ss.length] [some ⟨3, 1, false, .p (ss.map intRow)⟩] fun r H' => r = .ms 0 1 0 (compactI ss).length ∧ ∃ zs : List Int, H' = [some ⟨3, 1, false, .p ((compactI ss).map intRow ++ zs.map intRow)⟩] :=
  acall_compactI layCompI (ent Tryz.func91 (by kernel_rfl) (by kernel_rfl)) 3 ss hne (by omega)
theorem c_compactI0 : PCall Tryz.prog 91 [.pv (.val (.slice none 0 0))] (fun r => r = .pv (.val (.slice none 0 0))) := acall_compactI0 layCompI (ent Tryz.func91 (by kernel_rfl) (by kernel_rfl))
theorem c_sortL (xs : List (List PV)) (C : List PV → List PV → Int) (hC : ∀ x ∈ xs, ∀ y ∈ xs, PCall Tryz.prog 115 ([.agg (pvs x), .agg (pvs y)] ++ pvs []) (fun r => r = vint .i64 (C x y))) (hO : WeakOrd C xs) (hne : xs ≠ []) (hlen : xs.length ≤ 1000000000000) :
    ACall Tryz.prog 114 [.ms 0 3 0 xs.length, .pv (.fn 115 [])] [some ⟨102, 3, false, .p xs⟩] fun r H' => r = .tup [] ∧ ∃ ys, ys.Perm xs ∧ RowsAsc C ys ∧ H' = [some ⟨102, 3, false, .p ys⟩] :=
  acall_sortK layLoad (ent Tryz.func114 (by kernel_rfl) (by kernel_rfl)) Tryz.isAgg102 Tryz.sizeOf102 102 xs 115 [] C (Go.Proofs.enters_of Tryz.func115 (by kernel_rfl) rfl) hC hO (by decide) hne (by omega)
theorem c_sortC (xs : List (List PV)) (C : List PV → List PV → Int) (hC : ∀ x ∈ xs, ∀ y ∈ xs, PCall Tryz.prog 88 ([.agg (pvs x), .agg (pvs y)] ++ pvs []) (fun r => r = vint .i64 (C x y))) (hO : WeakOrd C xs) (hne : xs ≠ []) (hlen : xs.length ≤ 1000000000000) :
    ACall Tryz.prog 116 [.ms 0 4 0 xs.length, .pv (.fn 88 [])] [some ⟨78, 4, false, .p xs⟩] fun r H' => r = .tup [] ∧ ∃ ys, ys.Perm xs ∧ RowsAsc C ys ∧ H' = [some ⟨78, 4, false, .p ys⟩] :=
  acall_sortK layCount (ent Tryz.func116 (by kernel_rfl) (by kernel_rfl)) Tryz.isAgg78 Tryz.sizeOf78 78 xs 88 [] C (Go.Proofs.enters_of Tryz.func88 (by kernel_rfl) rfl) hC hO (by decide) hne (by omega)
end Go.Proofs.YtihpjcmloecaaaaGreat.Cw
/-
  Symmetry, plain: orders of loads and counts are total; sorted lists.
-/
namespace Go.Proofs.YtihpjcmloecaaaaGreat.Cw
open Go Go.Cw Go.Proofs
set_option linter.unusedVariables false
set_option maxRecDepth 100000
set_option maxHeartbeats 8000000
structure TotC {α : Type} (C : α → α → Int) : Prop where
  zero : ∀ x y, C x y = 0 ↔ x = y
  neg : ∀ x y, C x y < 0 ↔ 0 < C y x
  trans : ∀ x y z, C x y < 0 → C y z < 0 → C x z < 0
theorem TotC.refl {α : Type} {C : α → α → Int} (h : TotC C) (x : α) : C x x = 0 := (h.zero x x).2 rfl
theorem TotC.le_trans {α : Type} {C : α → α → Int} (h : TotC C) {x y z : α} (h1 : C x y ≤ 0) (h2 : C y z ≤ 0) : C x z ≤ 0 := by
  rcases Int.lt_or_eq_of_le h1 with h1 | h1
  · rcases Int.lt_or_eq_of_le h2 with h2 | h2
    · exact Int.le_of_lt (h.trans x y z h1 h2)
    · have := (h.zero _ _).1 h2; subst this; exact Int.le_of_lt h1
  · have := (h.zero _ _).1 h1; subst this; exact h2
theorem TotC.anti {α : Type} {C : α → α → Int} (h : TotC C) {x y : α} (h1 : C x y ≤ 0) (h2 : C y x ≤ 0) : x = y := by
  rcases Int.lt_or_eq_of_le h1 with h1 | h1
  · have := (h.neg _ _).1 h1; omega
  · exact (h.zero _ _).1 h1
theorem TotC.total {α : Type} {C : α → α → Int} (h : TotC C) (x y : α) : C x y ≤ 0 ∨ C y x ≤ 0 := by
  rcases Int.lt_or_le 0 (C x y) with h1 | h1
  · exact .inr (Int.le_of_lt ((h.neg _ _).2 h1))
  · exact .inl h1
def srt {α : Type} (C : α → α → Int) (l : List α) : List α := l.mergeSort fun x y => decide (C x y ≤ 0)
theorem srt_len {α : Type} {C : α → α → Int} (l : List α) : (srt C l).length = l.length := List.length_mergeSort _
theorem srt_perm {α : Type} {C : α → α → Int} (l : List α) : (srt C l).Perm l := List.mergeSort_perm ..
theorem srt_sorted {α : Type} {C : α → α → Int} (h : TotC C) (l : List α) : (srt C l).Pairwise fun x y => C x y ≤ 0 := by
  refine (List.pairwise_mergeSort (le := fun x y => decide (C x y ≤ 0)) ?_ ?_ l).imp fun {a b} h => of_decide_eq_true h
  · intro a b c h1 h2
    exact decide_eq_true (h.le_trans (of_decide_eq_true h1) (of_decide_eq_true h2))
  · intro a b
    rcases h.total a b with k | k
    · simp [k]
    · simp [k]
theorem srt_unique {α : Type} {C : α → α → Int} (h : TotC C) {a b : List α} (hp : a.Perm b) (ha : a.Pairwise fun x y => C x y ≤ 0) (hb : b.Pairwise fun x y => C x y ≤ 0) : a = b :=
  List.Perm.eq_of_pairwise (le := fun x y => C x y ≤ 0) (fun x y _ _ h1 h2 => h.anti h1 h2) ha hb hp
theorem srt_eq {α : Type} {C : α → α → Int} (h : TotC C) {a b : List α} : srt C a = srt C b ↔ a.Perm b :=
  ⟨fun e => (srt_perm a).symm.trans (e ▸ srt_perm b), fun hp => srt_unique h ((srt_perm a).trans (hp.trans (srt_perm b).symm)) (srt_sorted h a) (srt_sorted h b)⟩
theorem srt_rows {α : Type} {C : α → α → Int} (h : TotC C) {row : α → List PV} {un : List PV → α} (hun : ∀ a, un (row a) = a) {l : List α} {ys : List (List PV)} (hp : ys.Perm (l.map row)) (ha : RowsAsc (fun x y => C (un x) (un y)) ys) : ys = (srt C l).map row := by
  have hmu : (l.map row).map un = l := by
    rw [List.map_map]
    have : (un ∘ row) = id := funext hun
    rw [this, List.map_id]
  have e : ys = (ys.map un).map row := by
    rw [List.map_map]
    have : ys.map (row ∘ un) = ys.map id := List.map_congr_left fun x hx => by
      obtain ⟨s, -, rfl⟩ := List.mem_map.1 (hp.subset hx)
      show row (un (row s)) = row s
      rw [hun]
    rw [this, List.map_id]
  have hp2 : (ys.map un).Perm l := by
    have := hp.map un
    rwa [hmu] at this
  have hs : (ys.map un).Pairwise fun x y => C x y ≤ 0 := by
    rw [List.pairwise_iff_getElem]
    intro i j hi hj hij
    rw [List.length_map] at hi hj
    have h1 : ¬ C (un ys[j]) (un ys[i]) < 0 := ha i j _ _ hij (List.getElem?_eq_getElem hi) (List.getElem?_eq_getElem hj)
    rw [List.getElem_map, List.getElem_map]
    have h2 := h.neg (un ys[j]) (un ys[i])
    exact Int.not_lt.1 fun k => h1 (h2.2 k)
  rw [srt_unique h (hp2.trans (srt_perm (C := C) l).symm) hs (srt_sorted h l)] at e
  exact e
theorem weak_of {α : Type} {C : α → α → Int} (h : TotC C) {row : α → List PV} {un : List PV → α} (hun : ∀ a, un (row a) = a) (l : List α) : WeakOrd (fun x y => C (un x) (un y)) (l.map row) := by
  refine ⟨fun x hx => ?_, fun x hx y hy z hz h1 h2 => ?_, fun x hx y hy z hz h1 h2 => ?_⟩
  · show ¬ C (un x) (un x) < 0
    rw [h.refl]; omega
  · exact h.trans _ _ _ h1 h2
  · have e1 := h.neg (un y) (un x)
    have e2 := h.neg (un z) (un y)
    have e3 := h.neg (un z) (un x)
    have e1' := h.neg (un x) (un y)
    have e2' := h.neg (un y) (un z)
    have e3' := h.neg (un x) (un z)
    have hl := h.le_trans (x := un z) (y := un y) (z := un x)
    omega
theorem ld_lt {x y : Load} : ldC x y < 0 ↔ x.cls < y.cls ∨ (x.cls = y.cls ∧ (x.opt < y.opt ∨ (x.opt = y.opt ∧ x.weight < y.weight))) := by
  simp only [ldC, orI, cmpI]
  grind
theorem ct_lt {x y : Count} : ctC x y < 0 ↔ x.rule < y.rule ∨ (x.rule = y.rule ∧ (x.most < y.most ∨ (x.most = y.most ∧ (x.penalty < y.penalty ∨ (x.penalty = y.penalty ∧ lexL x.loads y.loads < 0))))) := by
  simp only [ctC]
  generalize lexL x.loads y.loads = a at *
  simp only [orI, cmpI]
  grind
theorem totLd : TotC ldC := by
  refine ⟨fun x y => ld_zero, fun x y => ?_, fun x y z => ?_⟩
  · simp only [ldC, orI, cmpI]
    grind
  · rw [ld_lt, ld_lt, ld_lt]; omega
theorem lex_neg : ∀ {a b : List Load}, lexL a b < 0 ↔ 0 < lexL b a
  | [], [] => by simp [lexL]
  | [], _ :: _ => by simp [lexL]
  | _ :: _, [] => by simp [lexL]
  | x :: a, y :: b => by
    have ih := lex_neg (a := a) (b := b)
    have h1 := totLd.neg x y
    have h2 := totLd.neg y x
    unfold lexL
    split <;> split <;> omega
theorem lex_trans : ∀ {a b c : List Load}, lexL a b < 0 → lexL b c < 0 → lexL a c < 0
  | [], [], c, h, _ => by simp [lexL] at h
  | [], _ :: _, [], _, h => by simp [lexL] at h
  | [], _ :: _, _ :: _, _, _ => by simp [lexL]
  | _ :: _, [], c, h, _ => by simp [lexL] at h
  | _ :: _, _ :: _, [], _, h => by simp [lexL] at h
  | x :: a, y :: b, z :: c, h1, h2 => by
    have ih := lex_trans (a := a) (b := b) (c := c)
    have t := totLd.trans x y z
    have e1 := ld_zero (x := x) (y := y)
    have e2 := ld_zero (x := y) (y := z)
    have e3 := ld_zero (x := x) (y := z)
    unfold lexL at h1 h2 ⊢
    split at h1
    · split at h2
      · have := t h1 h2
        rw [if_pos (by omega)]; exact this
      · have := e2.1 (by omega); subst this
        rw [if_pos (by omega)]; exact h1
    · have := e1.1 (by omega); subst this
      split at h2
      · rw [if_pos (by assumption)]; exact h2
      · rw [if_neg (by assumption)]; exact ih h1 h2
theorem totLex : TotC lexL := ⟨fun _ _ => lex_zero, fun _ _ => lex_neg, fun _ _ _ => lex_trans⟩
theorem totCt : TotC ctC := by
  refine ⟨fun x y => ct_zero, fun x y => ?_, fun x y z => ?_⟩
  · have h1 := lex_neg (a := x.loads) (b := y.loads)
    have h2 := lex_neg (a := y.loads) (b := x.loads)
    simp only [ctC]
    generalize lexL x.loads y.loads = a at *
    generalize lexL y.loads x.loads = b at *
    simp only [orI, cmpI]
    grind
  · have h1 := totLex.trans x.loads y.loads z.loads
    have h2 := totLex.zero x.loads y.loads
    have h3 := totLex.zero y.loads z.loads
    have h4 := totLex.zero x.loads z.loads
    have h5 : lexL x.loads y.loads = 0 → lexL x.loads z.loads = lexL y.loads z.loads := fun e => by rw [h2.1 e]
    have h6 : lexL y.loads z.loads = 0 → lexL x.loads z.loads = lexL x.loads y.loads := fun e => by rw [h3.1 e]
    clear h2 h3 h4
    rw [ct_lt, ct_lt, ct_lt]
    generalize lexL x.loads y.loads = a at *
    generalize lexL y.loads z.loads = b at *
    generalize lexL x.loads z.loads = c at *
    omega
def unLoad : List PV → Load
  | [.val (.int _ a), .val (.int _ b), .val (.int _ c)] => ⟨a, b, c⟩
  | _ => ⟨0, 0, 0⟩
theorem unLoad_row (l : Load) : unLoad l.row = l := rfl
def unCount : List PV → Count
  | [.val (.int _ a), .sl _ r, .val (.int _ b), .val (.int _ c)] => ⟨a, r.map unLoad, b, c⟩
  | _ => ⟨0, [], 0, 0⟩
theorem unCount_row (c : Count) : unCount c.row = c := by
  obtain ⟨a, l, b, d⟩ := c
  show Count.mk a ((l.map Load.row).map unLoad) b d = _
  rw [List.map_map]
  have : (unLoad ∘ Load.row) = id := funext unLoad_row
  rw [this, List.map_id]
theorem c_sortLoads (l : List Load) (hne : l ≠ []) (hl : l.length ≤ 100000) :
    ACall Tryz.prog 114 [.ms 0 3 0 l.length, .pv (.fn 115 [])] [some ⟨102, 3, false, .p (l.map Load.row)⟩] fun r H' => r = .tup [] ∧ H' = [some ⟨102, 3, false, .p ((srt ldC l).map Load.row)⟩] := by
  have h := c_sortL (l.map Load.row) (fun x y => ldC (unLoad x) (unLoad y)) (fun x hx y hy => by
    obtain ⟨a, ha, rfl⟩ := List.mem_map.1 hx
    obtain ⟨b, hb, rfl⟩ := List.mem_map.1 hy
    exact c_loads a b) (weak_of totLd unLoad_row l) (fun e => hne (List.map_eq_nil_iff.1 e)) (by rw [List.length_map]; omega)
  rw [List.length_map] at h
  exact h.mono fun r H' ⟨h1, ys, h2, h3, h4⟩ => ⟨h1, by rw [h4, srt_rows totLd unLoad_row h2 h3]⟩
theorem c_sortCounts (l : List Count) (hne : l ≠ []) (hl : l.length ≤ 100000) (hc : ∀ c ∈ l, c.loads.length ≤ 100000) :
    ACall Tryz.prog 116 [.ms 0 4 0 l.length, .pv (.fn 88 [])] [some ⟨78, 4, false, .p (l.map Count.row)⟩] fun r H' => r = .tup [] ∧ H' = [some ⟨78, 4, false, .p ((srt ctC l).map Count.row)⟩] := by
  have h := c_sortC (l.map Count.row) (fun x y => ctC (unCount x) (unCount y)) (fun x hx y hy => by
    obtain ⟨a, ha, rfl⟩ := List.mem_map.1 hx
    obtain ⟨b, hb, rfl⟩ := List.mem_map.1 hy
    rw [unCount_row, unCount_row]
    exact c_order22 a b (hc a ha) (hc b hb)) (weak_of totCt unCount_row l) (fun e => hne (List.map_eq_nil_iff.1 e)) (by rw [List.length_map]; omega)
  rw [List.length_map] at h
  exact h.mono fun r H' ⟨h1, ys, h2, h3, h4⟩ => ⟨h1, by rw [h4, srt_rows totCt unCount_row h2 h3]⟩
end Go.Proofs.YtihpjcmloecaaaaGreat.Cw
/-
  Symmetry: slices.Clone of counts, loads and ints: what it hands back, as_ an object of its own.
-/
namespace Go.Cw
theorem Ghost.shutK {n nh : Nat} {Γ : Slots} {H : Heap} {i k c ty z : Nat} {fz : Bool} {r : List PV} {xs : List (List PV)} {r0 : List AV} {x y : AV} {p' : PV} (hi : H[i]? = some (some ⟨ty, z, fz, .m ((xs.map pvs).set k r0)⟩)) (hk : xs[k]? = some r) (hr : r0 = (pvs r).set c x) (hlt : c < r.length)
    (hc : conv H x = some y) (hok : ok1 H x) (hn : i ∉ ids1 H x) (hle : ALe y (.pv p')) :
    Ghost n nh Γ H Γ ((app H (frz H (ids1 H x))).set i (some ⟨ty, z, fz, .p (xs.set k (r.set c p'))⟩)) := by
  have hkl : k < xs.length := (List.getElem?_eq_some_iff.1 hk).1
  refine Ghost.shutR (o := ⟨ty, z, fz, .m ((xs.map pvs).set k r0)⟩) hi (fun h j q hq => ?_) (fun c t => rfl) (fun j m u hu => ?_) hc hok hn hle
  · rw [List.getElem?_set] at hq
    split at hq
    · rename_i e; subst e
      injection hq with hq; subst hq
      have := h k r0 (by rw [List.getElem?_set_self (by simpa using hkl)])
      rw [hr, List.length_set, pvs_map, List.length_map] at this
      rw [List.length_set]; exact this
    · rename_i e
      have := h j (pvs q) (by rw [List.getElem?_set_ne e, List.getElem?_map, hq]; rfl)
      rw [pvs_map, List.length_map] at this; exact this
  · by_cases e : k = j
    · subst e
      simp only [rowCell] at hu ⊢
      rw [List.getElem?_set_self hkl] at hu
      rw [List.getElem?_set_self (by simpa using hkl), hr]
      simp only [Option.bind_some] at hu ⊢
      by_cases e : c = m
      · subst e
        right
        rw [List.getElem?_set_self hlt] at hu
        injection hu with hu
        exact ⟨hu.symm, List.getElem?_set_self (by rw [pvs_map, List.length_map]; exact hlt)⟩
      · left
        rw [List.getElem?_set_ne e] at hu ⊢
        rw [pvs_map, List.getElem?_map]; exact hu
    · left
      simp only [rowCell] at hu ⊢
      rw [List.getElem?_set_ne e] at hu ⊢
      rw [List.getElem?_map]
      cases h : xs[j]? with
      | none => rw [h] at hu; simp at hu
      | some q => rw [h] at hu; simpa [pvs_map] using hu
end Go.Cw
namespace Go.Proofs.YtihpjcmloecaaaaGreat.Cw
open Go Go.Cw Go.Proofs Go.RowKit
set_option linter.unusedVariables false
set_option maxRecDepth 100000
set_option maxHeartbeats 4000000
theorem below_evo {I : Nat → Prop} {w w' : World} {β' : Beta} {I' : Nat → Prop} (hH : HSim I [] [] w) (hb : Below w.heap.size w w') (hf : ∀ (i : Nat) b, β'[i]? = some (some b) → w.heap.size ≤ b.1) (hI : ∀ b, I b → I' b) (hI2 : ∀ b, I' b → I b ∨ w.heap.size ≤ b) (hd : w.drawn ≤ w'.drawn) : Evo I [] w I' β' w' :=
  ⟨hb.os, hb.tape, hb.output, hb.size, fun i b h => by simp at h, fun i b h => .inl (hf i b h), fun b h _ => hb.block b h, fun b h => ⟨hb.block b (hH.imm b h), hI b h⟩, fun b h h2 => (hI2 b h2).elim .inl fun h3 => by omega, fun b t n h => by
    have hlt : b < w.heap.size := by
      unfold World.shape? at h
      rcases Nat.lt_or_ge b w.heap.size with h1 | h1
      · exact h1
      · rw [Array.getElem?_eq_none h1] at h; cases h
    unfold World.shape? at h ⊢
    rw [hb.block b hlt]; exact h, hd⟩
theorem own_none {I : Nat → Prop} {w w' : World} {v : Value} {z : Nat} {te : TypeId} (hH : HSim I [] [] w) (ho : w'.ownsRow w.heap.size te z v 0 []) (hb : Below w.heap.size w w') (hd : w.drawn ≤ w'.drawn) :
    ∃ I' β', HSim I' β' [] w' ∧ ARel I' β' w' (.pv (.sl z [])) v ∧ Evo I [] w I' β' w' := by
  have hsl : ∃ ad cap, v = .slice ad 0 cap := by
    obtain ⟨-, ⟨rfl, -⟩ | ⟨g, cap, cur, rfl, -⟩⟩ := ho
    · exact ⟨_, _, rfl⟩
    · exact ⟨_, _, rfl⟩
  obtain ⟨ad, cap, rfl⟩ := hsl
  exact ⟨I, [], ⟨rfl, fun i o h => by simp at h, fun i j oi oj b b' h => by simp at h, ⟨fun b h => Nat.lt_of_lt_of_le (hH.imm b h) hb.size, hH.imm.gl.mono fun b h => ⟨hb.block b (hH.imm b h), h⟩⟩, fun i b h => by simp at h⟩,
    .pv (.sl (xs := []) (fun _ _ => undef) (Nat.zero_le _) (fun i r h => by simp at h) fun i r j p h => by simp at h), below_evo hH hb (fun i b h => by simp at h) (fun b h => h) (fun b h => .inl h) hd⟩
theorem c_cloneC (l : List Count) (hl : 0 < l.length ∧ l.length ≤ 100000) : ACall Tryz.prog 113 [.pv (.sl 4 (l.map Count.row))] [] (fun r H' => r = .ms 0 4 0 l.length ∧ H' = [some ⟨78, 4, false, .p (l.map Count.row)⟩]) := by
  obtain ⟨hl0, hl⟩ := hl
  rcases l with _ | ⟨x, l⟩
  · exact absurd hl0 (by simp)
  refine acall_of tok mixed 8 rfl (fn := Tryz.f113) (c := Tryz.f113.body.getD .skip) (by kernel_rfl) (by kernel_rfl) (by kernel_rfl) rfl 0 rfl ?_
  repeat' (first | ((show rowsLen _ * _ ≤ _; simp [rowsLen] at *; omega)) | ((show rowsLen _ ≤ _; simp [rowsLen] at *; omega)) | (refine eqv_to (Rows.p ((x :: l).map Count.row)) rfl (eqv_to (x :: l).length (by simp [rowsLen]) ?_)) | refine o1 ?_ | refine o2 ?_ | refine k1 ?_ | refine k2 ?_ | refine k3 ?_ | refine k6 ?_ | refine k7 ?_ | refine And.intro ?_ ?_ | (intro h; first | exact Bool.noConfusion h | exact nz _ h | exact nl h | (simp at h; done) | (simp at h; first | (exfalso; omega) | skip) | skip) | (refine (?_ : srcLen _ = rowsLen _); rfl) | (refine (?_ : _ = rowsLen _); simp [rowsLen] <;> omega) | fail)
  exact ret_obj [1] [some ⟨78, 4, false, .p ((x :: l).map Count.row)⟩] rfl rfl ⟨rfl, trivial⟩ (r' := .ms 0 4 0 (x :: l).length) rfl ⟨rfl, rfl⟩
set_option maxHeartbeats 2000000 in
theorem clone_emptyC (ad : Option Addr) (cap : Nat) (w : World) : Calls Tryz.prog 113 #[.slice ad 0 cap] w fun e w' => ∃ v', e = .returned v' ∧ w'.ownsRow w.heap.size 78 4 v' 0 [] ∧ Below w.heap.size w w' ∧ w.drawn ≤ w'.drawn := by
  have t4 := Tryz.underlying4; have a4 := Tryz.isAgg4; have z4 := Tryz.sizeOf4; have v4 := Tryz.zeroValue4
  have t9 := Tryz.underlying78; have a9 := Tryz.isAgg78; have z9 := Tryz.sizeOf78; have v9 := Tryz.zeroValue78
  have t28 := Tryz.underlying27; have a28 := Tryz.isAgg27; have z28 := Tryz.sizeOf27; have v28 := Tryz.zeroValue27
  have mx : Tryz.prog.follows .mixedOrders = true := mixed
  have q28 : ∀ (w : World) (a : Option Addr) (n c n' c' : Nat), (binOp .eql 27 (.slice a n c) (.slice none n' c')).run Tryz.prog w = .ok (.bool a.isNone) w := fun w a n c n' c' => Lib.run_eql_slice_nil w _ _ a n c n' c' t28
  have u28 : ∀ w, Sem.run Tryz.prog (underlying 27) w = .ok (TypeDesc.slice 78) w := run_underlying t28
  cases ad with
  | none =>
    go_enter Tryz.func113, Tryz.ntmps113
    go_wp2
    go_ret
    exact ⟨_, rfl, ⟨rfl, .inl ⟨rfl, rfl⟩⟩, Below.refl _ w, Nat.le_refl _⟩
  | some a =>
    go_enter Tryz.func113, Tryz.ntmps113
    go_wp2
    go_ret
    exact ⟨_, rfl, World.ownsRow_made w #[] 0 (Nat.le_refl _) (Nat.zero_le _) rfl, (Below.refl _ w).alloc (Nat.le_refl _) _, Nat.le_refl _⟩
theorem c_cloneCE (x0 : Count) : PCall Tryz.prog 113 [.pv (.sl 4 [])] (fun r => r = .pv (.sl 4 [])) := by
  refine ⟨(c_cloneC [x0] ⟨by simp, by simp⟩).1, fun I β w vs hH hs ha => ?_⟩
  have hv := ha 0 _ rfl
  obtain rfl : β = [] := List.eq_nil_of_length_eq_zero hH.len
  obtain ⟨v, rfl⟩ : ∃ v, vs = #[v] := ⟨vs[0]'(by rw [hs]; decide), by
    apply Array.ext
    · exact hs
    · intro i h1 h2
      have : i = 0 := by simp at h2; omega
      subst this; rfl⟩
  have hv : ARel I [] w (.pv (.sl 4 [])) v := hv
  obtain ⟨ad, cap, rfl⟩ : ∃ ad cap, v = .slice ad 0 cap := by
    cases hv with
    | pv h =>
      have h : PRel I w (.sl 4 []) v := h
      cases h with
      | sl u hc h1 h2 => exact ⟨_, _, rfl⟩
  refine (clone_emptyC ad cap w).mono ?_
  rintro e w' ⟨v', rfl, ho, hb, hd⟩
  obtain ⟨I', β', h1, h2, h3⟩ := own_none hH ho hb hd
  exact ⟨_, _, I', β', v', rfl, ⟨rfl, rfl⟩, h1, h2, h3⟩
theorem c_cloneL (l : List Load) (hl : 0 < l.length ∧ l.length ≤ 100000) : ACall Tryz.prog 96 [.pv (.sl 3 (l.map Load.row))] [] (fun r H' => r = .ms 0 3 0 l.length ∧ H' = [some ⟨102, 3, false, .p (l.map Load.row)⟩]) := by
  obtain ⟨hl0, hl⟩ := hl
  rcases l with _ | ⟨x, l⟩
  · exact absurd hl0 (by simp)
  refine acall_of tok mixed 8 rfl (fn := Tryz.f96) (c := Tryz.f96.body.getD .skip) (by kernel_rfl) (by kernel_rfl) (by kernel_rfl) rfl 0 rfl ?_
  repeat' (first | ((show rowsLen _ * _ ≤ _; simp [rowsLen] at *; omega)) | ((show rowsLen _ ≤ _; simp [rowsLen] at *; omega)) | (refine eqv_to (Rows.p ((x :: l).map Load.row)) rfl (eqv_to (x :: l).length (by simp [rowsLen]) ?_)) | refine o1 ?_ | refine o2 ?_ | refine k1 ?_ | refine k2 ?_ | refine k3 ?_ | refine k6 ?_ | refine k7 ?_ | refine And.intro ?_ ?_ | (intro h; first | exact Bool.noConfusion h | exact nz _ h | exact nl h | (simp at h; done) | (simp at h; first | (exfalso; omega) | skip) | skip) | (refine (?_ : srcLen _ = rowsLen _); rfl) | (refine (?_ : _ = rowsLen _); simp [rowsLen] <;> omega) | fail)
  exact ret_obj [1] [some ⟨102, 3, false, .p ((x :: l).map Load.row)⟩] rfl rfl ⟨rfl, trivial⟩ (r' := .ms 0 3 0 (x :: l).length) rfl ⟨rfl, rfl⟩
set_option maxHeartbeats 2000000 in
theorem clone_emptyL (ad : Option Addr) (cap : Nat) (w : World) : Calls Tryz.prog 96 #[.slice ad 0 cap] w fun e w' => ∃ v', e = .returned v' ∧ w'.ownsRow w.heap.size 102 3 v' 0 [] ∧ Below w.heap.size w w' ∧ w.drawn ≤ w'.drawn := by
  have t4 := Tryz.underlying4; have a4 := Tryz.isAgg4; have z4 := Tryz.sizeOf4; have v4 := Tryz.zeroValue4
  have t9 := Tryz.underlying102; have a9 := Tryz.isAgg102; have z9 := Tryz.sizeOf102; have v9 := Tryz.zeroValue102
  have t28 := Tryz.underlying76; have a28 := Tryz.isAgg76; have z28 := Tryz.sizeOf76; have v28 := Tryz.zeroValue76
  have mx : Tryz.prog.follows .mixedOrders = true := mixed
  have q28 : ∀ (w : World) (a : Option Addr) (n c n' c' : Nat), (binOp .eql 76 (.slice a n c) (.slice none n' c')).run Tryz.prog w = .ok (.bool a.isNone) w := fun w a n c n' c' => Lib.run_eql_slice_nil w _ _ a n c n' c' t28
  have u28 : ∀ w, Sem.run Tryz.prog (underlying 76) w = .ok (TypeDesc.slice 102) w := run_underlying t28
  cases ad with
  | none =>
    go_enter Tryz.func96, Tryz.ntmps96
    go_wp2
    go_ret
    exact ⟨_, rfl, ⟨rfl, .inl ⟨rfl, rfl⟩⟩, Below.refl _ w, Nat.le_refl _⟩
  | some a =>
    go_enter Tryz.func96, Tryz.ntmps96
    go_wp2
    go_ret
    exact ⟨_, rfl, World.ownsRow_made w #[] 0 (Nat.le_refl _) (Nat.zero_le _) rfl, (Below.refl _ w).alloc (Nat.le_refl _) _, Nat.le_refl _⟩
theorem c_cloneLE (x0 : Load) : PCall Tryz.prog 96 [.pv (.sl 3 [])] (fun r => r = .pv (.sl 3 [])) := by
  refine ⟨(c_cloneL [x0] ⟨by simp, by simp⟩).1, fun I β w vs hH hs ha => ?_⟩
  have hv := ha 0 _ rfl
  obtain rfl : β = [] := List.eq_nil_of_length_eq_zero hH.len
  obtain ⟨v, rfl⟩ : ∃ v, vs = #[v] := ⟨vs[0]'(by rw [hs]; decide), by
    apply Array.ext
    · exact hs
    · intro i h1 h2
      have : i = 0 := by simp at h2; omega
      subst this; rfl⟩
  have hv : ARel I [] w (.pv (.sl 3 [])) v := hv
  obtain ⟨ad, cap, rfl⟩ : ∃ ad cap, v = .slice ad 0 cap := by
    cases hv with
    | pv h =>
      have h : PRel I w (.sl 3 []) v := h
      cases h with
      | sl u hc h1 h2 => exact ⟨_, _, rfl⟩
  refine (clone_emptyL ad cap w).mono ?_
  rintro e w' ⟨v', rfl, ho, hb, hd⟩
  obtain ⟨I', β', h1, h2, h3⟩ := own_none hH ho hb hd
  exact ⟨_, _, I', β', v', rfl, ⟨rfl, rfl⟩, h1, h2, h3⟩
theorem c_cloneI (l : List Int) (hl : 0 < l.length ∧ l.length ≤ 100000) : ACall Tryz.prog 44 [.pv (.sl 1 (l.map intRow))] [] (fun r H' => r = .ms 0 1 0 l.length ∧ H' = [some ⟨3, 1, false, .p (l.map intRow)⟩]) := by
  obtain ⟨hl0, hl⟩ := hl
  rcases l with _ | ⟨x, l⟩
  · exact absurd hl0 (by simp)
  refine acall_of tok mixed 8 rfl (fn := Tryz.f44) (c := Tryz.f44.body.getD .skip) (by kernel_rfl) (by kernel_rfl) (by kernel_rfl) rfl 0 rfl ?_
  repeat' (first | ((show rowsLen _ * _ ≤ _; simp [rowsLen] at *; omega)) | ((show rowsLen _ ≤ _; simp [rowsLen] at *; omega)) | (refine eqv_to (Rows.p ((x :: l).map intRow)) rfl (eqv_to (x :: l).length (by simp [rowsLen]) ?_)) | refine o1 ?_ | refine o2 ?_ | refine k1 ?_ | refine k2 ?_ | refine k3 ?_ | refine k6 ?_ | refine k7 ?_ | refine And.intro ?_ ?_ | (intro h; first | exact Bool.noConfusion h | exact nz _ h | exact nl h | (simp at h; done) | (simp at h; first | (exfalso; omega) | skip) | skip) | (refine (?_ : srcLen _ = rowsLen _); rfl) | (refine (?_ : _ = rowsLen _); simp [rowsLen] <;> omega) | fail)
  exact ret_obj [1] [some ⟨3, 1, false, .p ((x :: l).map intRow)⟩] rfl rfl ⟨rfl, trivial⟩ (r' := .ms 0 1 0 (x :: l).length) rfl ⟨rfl, rfl⟩
set_option maxHeartbeats 2000000 in
theorem clone_emptyI (ad : Option Addr) (cap : Nat) (w : World) : Calls Tryz.prog 44 #[.slice ad 0 cap] w fun e w' => ∃ v', e = .returned v' ∧ w'.ownsRow w.heap.size 3 1 v' 0 [] ∧ Below w.heap.size w w' ∧ w.drawn ≤ w'.drawn := by
  have t4 := Tryz.underlying4; have a4 := Tryz.isAgg4; have z4 := Tryz.sizeOf4; have v4 := Tryz.zeroValue4
  have t9 := Tryz.underlying3; have a9 := Tryz.isAgg3; have z9 := Tryz.sizeOf3; have v9 := Tryz.zeroValue3
  have t28 := Tryz.underlying22; have a28 := Tryz.isAgg22; have z28 := Tryz.sizeOf22; have v28 := Tryz.zeroValue22
  have mx : Tryz.prog.follows .mixedOrders = true := mixed
  have q28 : ∀ (w : World) (a : Option Addr) (n c n' c' : Nat), (binOp .eql 22 (.slice a n c) (.slice none n' c')).run Tryz.prog w = .ok (.bool a.isNone) w := fun w a n c n' c' => Lib.run_eql_slice_nil w _ _ a n c n' c' t28
  have u28 : ∀ w, Sem.run Tryz.prog (underlying 22) w = .ok (TypeDesc.slice 3) w := run_underlying t28
  cases ad with
  | none =>
    go_enter Tryz.func44, Tryz.ntmps44
    go_wp2
    go_ret
    exact ⟨_, rfl, ⟨rfl, .inl ⟨rfl, rfl⟩⟩, Below.refl _ w, Nat.le_refl _⟩
  | some a =>
    go_enter Tryz.func44, Tryz.ntmps44
    go_wp2
    go_ret
    exact ⟨_, rfl, World.ownsRow_made w #[] 0 (Nat.le_refl _) (Nat.zero_le _) rfl, (Below.refl _ w).alloc (Nat.le_refl _) _, Nat.le_refl _⟩
theorem c_cloneIE (x0 : Int) : PCall Tryz.prog 44 [.pv (.sl 1 [])] (fun r => r = .pv (.sl 1 [])) := by
  refine ⟨(c_cloneI [x0] ⟨by simp, by simp⟩).1, fun I β w vs hH hs ha => ?_⟩
  have hv := ha 0 _ rfl
  obtain rfl : β = [] := List.eq_nil_of_length_eq_zero hH.len
  obtain ⟨v, rfl⟩ : ∃ v, vs = #[v] := ⟨vs[0]'(by rw [hs]; decide), by
    apply Array.ext
    · exact hs
    · intro i h1 h2
      have : i = 0 := by simp at h2; omega
      subst this; rfl⟩
  have hv : ARel I [] w (.pv (.sl 1 [])) v := hv
  obtain ⟨ad, cap, rfl⟩ : ∃ ad cap, v = .slice ad 0 cap := by
    cases hv with
    | pv h =>
      have h : PRel I w (.sl 1 []) v := h
      cases h with
      | sl u hc h1 h2 => exact ⟨_, _, rfl⟩
  refine (clone_emptyI ad cap w).mono ?_
  rintro e w' ⟨v', rfl, ho, hb, hd⟩
  obtain ⟨I', β', h1, h2, h3⟩ := own_none hH ho hb hd
  exact ⟨_, _, I', β', v', rfl, ⟨rfl, rfl⟩, h1, h2, h3⟩
end Go.Proofs.YtihpjcmloecaaaaGreat.Cw
/-
  Symmetry: sorting at nothing; the counts of a model with other options in their loads.
-/
namespace Go.Proofs.YtihpjcmloecaaaaGreat.Cw
open Go Go.Cw Go.Proofs
set_option linter.unusedVariables false
set_option maxRecDepth 100000
set_option maxHeartbeats 8000000
theorem sortK_nil {P : Program} {ρ : Go.Shelf.Ren} (L : Go.Proofs.SlLaysF0.n6 P ρ) (he : Enterable P (ρ.f 6)) (z : Nat) (g : FuncId) (caps : List PV) : PCall P (ρ.f 6) [.pv (.sl z []), .pv (.fn g caps)] (fun r => r = .tup []) := by
  refine ⟨he, fun I β w vs hH hvs hrel => ?_⟩
  obtain ⟨v0, v1, rfl⟩ : ∃ v0 v1, vs = #[v0, v1] := by
    match vs, hvs with
    | ⟨[v, v']⟩, _ => exact ⟨v, v', rfl⟩
  have h0 := hrel 0 _ rfl
  cases h0 with
  | pv h0 =>
    change PRel I w (.sl z []) v0 at h0
    obtain ⟨ad, cap, rfl⟩ : ∃ ad cap, v0 = .slice ad 0 cap := by
      cases h0 with
      | sl u hc h1 h2 => exact ⟨_, _, rfl⟩
    refine (Go.Proofs.AnyF.slices_SortFunc_none L ad cap v1 w).mono ?_
    rintro e w' ⟨rfl, rfl⟩
    exact ⟨_, [], I, β, _, rfl, ⟨rfl, rfl⟩, hH, .tup rfl (fun j c hj => by simp at hj), Evo.refl I β w'⟩
theorem c_sortLE : PCall Tryz.prog 114 [.pv (.sl 3 (List.map Load.row [])), .pv (.fn 115 [])] (fun r => r = .tup []) :=
  sortK_nil layLoad (ent Tryz.func114 (by kernel_rfl) (by kernel_rfl)) 3 115 []
theorem c_sortCE : PCall Tryz.prog 116 [.pv (.sl 4 (List.map Count.row [])), .pv (.fn 88 [])] (fun r => r = .tup []) :=
  sortK_nil layCount (ent Tryz.func116 (by kernel_rfl) (by kernel_rfl)) 4 88 []
def optL (g : Load → Int) (l : Load) : Load := ⟨l.cls, g l, l.weight⟩
def optC (g : Load → Int) (c : Count) : Count := ⟨c.rule, srt ldC (c.loads.map (optL g)), c.most, c.penalty⟩
def countsV (g : Load → Int) (l : List Count) : List Count := srt ctC (l.map (optC g))
theorem tk_snoc {α : Type} {l : List α} {i : Nat} {x : α} (h : l[i]? = some x) : l.take (i + 1) = l.take i ++ [x] := by
  rw [List.take_add_one, h]; rfl
theorem half_at {α : Type} {f : α → α} {l : List α} {i : Nat} {x : α} (h : l[i]? = some x) : ((l.take i).map f ++ l.drop i)[i]? = some x := by
  have hi := (List.getElem?_eq_some_iff.1 h).1
  rw [List.getElem?_append_right (by simp; omega)]
  simp only [List.length_map, List.length_take]
  rw [List.getElem?_drop, ← h]
  congr 1; omega
theorem half_set {α : Type} {f : α → α} {l : List α} {i : Nat} {x : α} (h : l[i]? = some x) : ((l.take i).map f ++ l.drop i).set i (f x) = (l.take (i + 1)).map f ++ l.drop (i + 1) := by
  have hi := (List.getElem?_eq_some_iff.1 h).1
  rw [tk_snoc h, List.map_append, List.append_assoc]
  rw [List.set_append_right _ _ (by simp; omega)]
  rw [drop_at h]
  have : i - ((l.take i).map f).length = 0 := by simp; omega
  rw [this]; rfl
theorem half_all {α : Type} {f : α → α} {l : List α} : (l.take l.length).map f ++ l.drop l.length = l.map f := by rw [List.take_length, List.drop_length, List.append_nil]
theorem c_counts0 (m : Model) (f : FuncId) (caps : List PV) (g : Load → Int) (hn : m.counts.length ≤ 1000) (hl : ∀ c ∈ m.counts, c.loads.length ≤ 1000)
    (hf : ∀ c ∈ m.counts, ∀ l ∈ c.loads, PCall Tryz.prog f (ag l.row :: pvs caps) (fun r => r = vint .i64 (g l))) : PCall Tryz.prog 83 [ag m.cells, .pv (.fn f caps)] (fun r => Leq r (.pv (.sl 4 ((countsV g m.counts).map Count.row)))) := by
  obtain ⟨MC, MP, CC, MR⟩ := m
  dsimp only at hn hl hf
  have hcc := c_cloneC CC
  have hce : PCall Tryz.prog 113 [.pv (.sl 4 (List.map Count.row []))] (fun r => r = .pv (.sl 4 (List.map Count.row []))) := c_cloneCE ⟨0, [], 0, 0⟩
  refine acall_of tok mixed 50 rfl (fn := Tryz.f83) (c := Tryz.f83.body.getD .skip) (by kernel_rfl) (by kernel_rfl) (by kernel_rfl) rfl 0 rfl ?_
  rcases CC with _ | ⟨c0, C⟩
  · repeat' (first | ((change vcFun _ _ _ _ _; refine call_frz rfl (by repeat' (first | trivial | refine And.intro ?_ ?_ | (show 0 + _ ≤ List.length _; simp))) ALeL.refl hce ?_; rintro _ rfl)) | refine o1 ?_ | refine o2 ?_ | refine k1 ?_ | refine k2 ?_ | refine k4 ?_ | refine eqv_len_map ?_ | fail)
    refine loop_at (fun u : Nat => [(15, vint .i64 0)]) (fun _ => []) (fun _ => True) (fun _ => 0) 0 trivial (by repeat' (first | exact trivial | exact ⟨_, rfl, ALe.refl⟩ | refine And.intro ?_ ?_)) (by repeat' (first | exact trivial | exact rfl | refine And.intro ?_ ?_)) ?_
    intro _ _
    repeat' (first | refine o1 ?_ | refine o2 ?_ | refine k1 ?_ | refine k2 ?_ | refine k3 ?_ | refine k7 ?_ | refine k8 ?_ | refine And.intro ?_ ?_ | (intro h; first | exact Bool.noConfusion h | exact nz _ h | exact nl h | (simp at h; done) | (simp at h; first | (exfalso; omega) | skip) | skip) | (change retOk _ _ _ _; refine ret_pure rfl trivial ?_) | (change vcFun _ _ _ _ _; refine call_eq rfl (by repeat' (first | trivial | refine And.intro ?_ ?_ | (show 0 + _ ≤ List.length _; simp))) ALeL.refl (c_sortCE) rfl ?_) | fail)
    exact ⟨by rw [show countsV g [] = [] by simp [countsV, srt]]; exact ALe.refl⟩
  · have hcc := hcc ⟨by simp, by simp at hn ⊢; omega⟩
    generalize hCC : c0 :: C = CC at *
    have hne : CC ≠ [] := by subst hCC; simp
    have hpos : 0 < CC.length := List.length_pos_iff.2 hne
    repeat' (first | ((change vcFun _ _ _ _ _; refine call_obj [] [] [.pv (.sl 4 (CC.map Count.row))] rfl trivial rfl hcc ?_; rintro r H' ⟨rfl, rfl⟩)) | refine o1 ?_ | refine o2 ?_ | refine k1 ?_ | refine k2 ?_ | refine k4 ?_ | refine And.intro ?_ ?_ | exact Nat.le_of_ble_eq_true rfl | fail)
    refine loop_for (fun i : Nat => [(1, .pv (.fn f caps)), (5, .ms 1 4 0 CC.length), (13, .ms 1 4 0 CC.length), (14, vint .i64 CC.length), (15, vint .i64 i)]) (fun i => [none, some ⟨78, 4, false, .p (((CC.take i).map (optC g) ++ CC.drop i).map Count.row)⟩]) (fun i => i ≤ CC.length) (fun i => CC.length - i) 0 (Nat.zero_le _) ?_ ?_
    · exact back [0, 1] rfl rfl (by repeat' (first | exact trivial | exact rfl | refine And.intro ?_ ?_)) (by repeat' (first | exact trivial | exact rfl | refine And.intro ?_ ?_))
    intro i hi
    rcases Nat.lt_or_ge i CC.length with hlt | hge
    · obtain ⟨c, hc⟩ := getE hlt
      have hcr : (((CC.take i).map (optC g) ++ CC.drop i).map Count.row)[i]? = some c.row := at_map (half_at hc)
      have hnx := half_set (f := optC g) hc
      have hll := hl c (List.mem_of_getElem? hc)
      have hg := hf c (List.mem_of_getElem? hc)
      obtain ⟨cr, cl, cm, cp⟩ := c
      dsimp only at hll hg
      have hcl := c_cloneL cl
      have hcle : PCall Tryz.prog 96 [.pv (.sl 3 (List.map Load.row []))] (fun r => r = .pv (.sl 3 (List.map Load.row []))) := c_cloneLE ⟨0, 0, 0⟩
      rcases cl with _ | ⟨l0, L0⟩
      · have hset : (((CC.take i).map (optC g) ++ CC.drop i).map Count.row).set i (splice 1 [.sl 3 (List.map Load.row [])] (Count.row ⟨cr, [], cm, cp⟩)) = ((CC.take (i + 1)).map (optC g) ++ CC.drop (i + 1)).map Count.row := by
          have h0 : (optC g ⟨cr, [], cm, cp⟩).row = Count.row ⟨cr, [], cm, cp⟩ := by unfold optC; rw [show srt ldC (List.map (optL g) []) = [] by simp [srt]]
          rw [← hnx, List.map_set, h0]; rfl
        repeat' (first | (refine idx_ms i rfl hlt ?_) | (refine ⟨_, hcr, ?_⟩) | ((change vcFun _ _ _ _ _; refine call_frz rfl (by repeat' (first | trivial | refine And.intro ?_ ?_ | (show 0 + _ ≤ List.length _; simp))) ALeL.refl hcle ?_; rintro _ rfl)) | refine o1 ?_ | refine o2 ?_ | refine k1 ?_ | refine k2 ?_ | refine k3 ?_ | refine k4 ?_ | refine k6 ?_ | refine And.intro ?_ ?_ | (intro h; first | exact Bool.noConfusion h | exact nz _ h | exact nl h | (simp at h; done) | (simp at h; first | (exfalso; omega) | skip) | skip) | exact (by kernel_rfl : drawOk _ _ = true) | refine eqv_len_map ?_ | refine eqv_zero ?_ | fail)
        refine loop_for (fun u : Nat => [(1, .pv (.fn f caps)), (5, .ms 1 4 0 CC.length), (13, .ms 1 4 0 CC.length), (14, vint .i64 CC.length), (15, vint .i64 i), (6, vint .i64 i), (8, .pv (.sl 3 (List.map Load.row []))), (24, vint .i64 0), (25, vint .i64 0)]) (fun _ => [none, some ⟨78, 4, false, .p (((CC.take i).map (optC g) ++ CC.drop i).map Count.row)⟩]) (fun _ => True) (fun _ => 0) 0 trivial (back [0, 1] rfl rfl (by repeat' (first | exact trivial | exact rfl | refine And.intro ?_ ?_)) (by repeat' (first | exact trivial | exact rfl | refine And.intro ?_ ?_))) ?_
        intro _ _
        repeat' (first | (refine idx_ms i rfl hlt ?_) | (refine ⟨_, hcr, (Nat.le_of_ble_eq_true rfl), ?_⟩) | (refine eqv_to _ hset ?_) | refine o1 ?_ | refine o2 ?_ | refine k1 ?_ | refine k2 ?_ | refine k3 ?_ | refine k8 ?_ | refine And.intro ?_ ?_ | (intro h; first | exact Bool.noConfusion h | exact nz _ h | exact nl h | (simp at h; done) | (simp at h; first | (exfalso; omega) | skip) | skip) | refine eqv_zero ?_ | refine eqv_wrap (by omega) (by omega) ?_ | (change vcFun _ _ _ _ _; refine call_eq rfl (by repeat' (first | trivial | refine And.intro ?_ ?_ | (show 0 + _ ≤ List.length _; simp))) ALeL.refl (c_sortLE) rfl ?_) | fail)
        exact ⟨i + 1, by omega, by omega, back [0, 1] rfl rfl (by repeat' (first | exact trivial | exact rfl | refine And.intro ?_ ?_)) (by repeat' (first | exact trivial | exact rfl | refine And.intro ?_ ?_))⟩
      · have hcl := hcl ⟨by simp, by omega⟩
        generalize hLL : l0 :: L0 = LL at *
        have hne2 : LL ≠ [] := by subst hLL; simp
        repeat' (first | (refine idx_ms i rfl hlt ?_) | (refine ⟨_, hcr, ?_⟩) | ((change vcFun _ _ _ _ _; refine call_obj [] [] [.pv (.sl 3 (LL.map Load.row))] rfl trivial rfl hcl ?_; rintro r H' ⟨rfl, rfl⟩)) | refine o1 ?_ | refine o2 ?_ | refine k1 ?_ | refine k2 ?_ | refine k3 ?_ | refine k4 ?_ | refine k6 ?_ | refine And.intro ?_ ?_ | (intro h; first | exact Bool.noConfusion h | exact nz _ h | exact nl h | (simp at h; done) | (simp at h; first | (exfalso; omega) | skip) | skip) | exact Nat.le_of_ble_eq_true rfl | exact (by kernel_rfl : drawOk _ _ = true) | refine eqv_zero ?_ | fail)
        refine loop_for (fun k : Nat => [(1, .pv (.fn f caps)), (5, .ms 1 4 0 CC.length), (13, .ms 1 4 0 CC.length), (14, vint .i64 CC.length), (15, vint .i64 i), (6, vint .i64 i), (8, .ms 2 3 0 LL.length), (24, vint .i64 LL.length), (25, vint .i64 k)]) (fun k => [none, some ⟨78, 4, false, .p (((CC.take i).map (optC g) ++ CC.drop i).map Count.row)⟩, some ⟨102, 3, false, .p (((LL.take k).map (optL g) ++ LL.drop k).map Load.row)⟩]) (fun k => k ≤ LL.length) (fun k => LL.length - k) 0 (Nat.zero_le _) (back [0, 1, 3] rfl rfl (by repeat' (first | exact trivial | exact rfl | refine And.intro ?_ ?_)) (by repeat' (first | exact trivial | exact rfl | refine And.intro ?_ ?_))) ?_
        intro k hk
        rcases Nat.lt_or_ge k LL.length with hlk | hgk
        · obtain ⟨x, hx⟩ := getE hlk
          have hxr : (((LL.take k).map (optL g) ++ LL.drop k).map Load.row)[k]? = some x.row := at_map (half_at hx)
          have hnk := half_set (f := optL g) hx
          have hgx := hg x (List.mem_of_getElem? hx)
          have hsetk : (((LL.take k).map (optL g) ++ LL.drop k).map Load.row).set k (splice 1 [ei (g x)] x.row) = ((LL.take (k + 1)).map (optL g) ++ LL.drop (k + 1)).map Load.row := by rw [← hnk, List.map_set]; rfl
          repeat' (first | (refine idx_ms k rfl hlk ?_) | (refine ⟨_, hxr, (Nat.le_of_ble_eq_true rfl), ?_⟩) | (refine ⟨_, hxr, ?_⟩) | (refine eqv_to _ hsetk ?_) | refine o1 ?_ | refine o2 ?_ | refine k1 ?_ | refine k2 ?_ | refine k3 ?_ | refine k4 ?_ | refine k6 ?_ | refine And.intro ?_ ?_ | (intro h; first | exact Bool.noConfusion h | exact nz _ h | exact nl h | (simp at h; done) | (simp at h; first | (exfalso; omega) | skip) | skip) | refine eqv_zero ?_ | refine eqv_wrap (by omega) (by omega) ?_ | (change vcFun _ _ (_ ++ pvs _) _ _; refine call_cap rfl (by repeat' (first | trivial | refine And.intro ?_ ?_ | (show 0 + _ ≤ List.length _; simp))) (hgx) rfl ?_) | fail)
          exact ⟨k + 1, by omega, by omega, back [0, 1, 2] rfl rfl (by repeat' (first | exact trivial | exact rfl | refine And.intro ?_ ?_)) (by repeat' (first | exact trivial | exact rfl | refine And.intro ?_ ?_))⟩
        · obtain rfl : k = LL.length := by omega
          rw [half_all]
          have hso := c_sortLoads (LL.map (optL g)) (by simpa using hne2) (by rw [List.length_map]; omega)
          rw [List.length_map] at hso
          have hm : (List.map pvs (((CC.take i).map (optC g) ++ CC.drop i).map Count.row)).set i (splice (0 + 1) (cellsOf (AV.ms 2 3 0 LL.length)) (pvs (Count.row ⟨cr, LL, cm, cp⟩))) = (List.map pvs (((CC.take i).map (optC g) ++ CC.drop i).map Count.row)).set i ((pvs (Count.row ⟨cr, LL, cm, cp⟩)).set 1 (AV.ms 2 3 0 LL.length)) := rfl
          have hfin : (((CC.take i).map (optC g) ++ CC.drop i).map Count.row).set i ((Count.row ⟨cr, LL, cm, cp⟩).set 1 (.sl 3 ((srt ldC (LL.map (optL g))).map Load.row))) = ((CC.take (i + 1)).map (optC g) ++ CC.drop (i + 1)).map Count.row := by rw [← hnx, List.map_set]; rfl
          repeat' (first | ((change vcFun _ _ _ _ _; refine call_one (i := 2) rfl (fun _ _ => rfl) [.ms 0 3 0 LL.length, .pv (.fn 115 [])] rfl hso ?_; rintro r H' ⟨rfl, rfl⟩; refine ⟨_, rfl, fun _ _ => rfl, fun _ _ => rfl, ?_⟩)) | (refine idx_ms i rfl hlt ?_) | (refine ⟨_, hcr, (Nat.le_of_ble_eq_true rfl), ?_⟩) | (refine eqv_to _ hm ?_) | refine o1 ?_ | refine o2 ?_ | refine k1 ?_ | refine k2 ?_ | refine k3 ?_ | refine k8 ?_ | refine And.intro ?_ ?_ | (intro h; first | exact Bool.noConfusion h | exact nz _ h | exact nl h | (simp at h; done) | (simp at h; first | (exfalso; omega) | skip) | skip) | refine eqv_zero ?_ | refine eqv_wrap (by omega) (by omega) ?_ | fail)
          generalize ((CC.take i).map (optC g) ++ CC.drop i).map Count.row = XS at *
          refine ⟨i + 1, by omega, by omega, Ghost.trans (Ghost.shutK (i := 1) (k := i) (c := 1) (r := Count.row ⟨cr, LL, cm, cp⟩) (xs := XS) (x := .ms 2 3 0 LL.length) (p' := .sl 3 ((srt ldC (LL.map (optL g))).map Load.row)) rfl hcr rfl (by simp [Count.row]) rfl ?_ ?_ (ALe.pv (whole_le (f := Load.row) (by rw [srt_len, List.length_map]; exact Nat.le_refl _)))) ?_⟩
          · show 0 + LL.length ≤ _
            rw [List.length_map, srt_len, List.length_map]; omega
          · show ¬ (1 ∈ ([2] : List Nat))
            decide
          · rw [hfin]
            exact back [0, 1] rfl rfl (by repeat' (first | exact trivial | exact rfl | refine And.intro ?_ ?_)) (by repeat' (first | exact trivial | exact rfl | refine And.intro ?_ ?_))
    · obtain rfl : i = CC.length := by omega
      rw [half_all]
      have hso := c_sortCounts (CC.map (optC g)) (by simpa using hne) (by rw [List.length_map]; omega) (fun c hc => by
        obtain ⟨d, hd, rfl⟩ := List.mem_map.1 hc
        have := hl d hd
        show (srt ldC (d.loads.map (optL g))).length ≤ _
        rw [srt_len, List.length_map]; omega)
      rw [List.length_map] at hso
      repeat' (first | ((change vcFun _ _ _ _ _; refine call_one (i := 1) rfl (fun _ _ => rfl) [.ms 0 4 0 CC.length, .pv (.fn 88 [])] rfl hso ?_; rintro r H' ⟨rfl, rfl⟩; refine ⟨_, rfl, fun _ _ => rfl, fun _ _ => rfl, ?_⟩)) | refine o1 ?_ | refine o2 ?_ | refine k1 ?_ | refine k2 ?_ | refine k3 ?_ | refine k7 ?_ | refine k8 ?_ | refine And.intro ?_ ?_ | (intro h; first | exact Bool.noConfusion h | exact nz _ h | exact nl h | (simp at h; done) | (simp at h; first | (exfalso; omega) | skip) | skip) | fail)
      refine ret_pure rfl (by repeat' (first | (show 0 + _ ≤ List.length _; simp [srt_len]))) ?_
      exact ⟨ALe.pv (whole_le (f := Count.row) (l := countsV g CC) (by unfold countsV; rw [srt_len, List.length_map]; exact Nat.le_refl _))⟩
theorem c_counts (m : Model) (f : FuncId) (caps : List PV) (g : Load → Int) (hn : m.counts.length ≤ 1000) (hl : ∀ c ∈ m.counts, c.loads.length ≤ 1000)
    (hf : ∀ c ∈ m.counts, ∀ l ∈ c.loads, PCall Tryz.prog f (ag l.row :: pvs caps) (fun r => r = vint .i64 (g l))) : PCall Tryz.prog 83 [ag m.cells, .pv (.fn f caps)] (fun r => r = .pv (.sl 4 ((countsV g m.counts).map Count.row))) :=
  (c_counts0 m f caps g hn hl hf).weak fun r k => ⟨_, k.le, rfl⟩
end Go.Proofs.YtihpjcmloecaaaaGreat.Cw
/-
  slices.Clone: of charges, as_ objects of their own; of loads and numbers, pure.
-/
namespace Go.Proofs.YtihpjcmloecaaaaGreat.Cw
open Go Go.Cw Go.Proofs Go.RowKit
set_option linter.unusedVariables false
set_option maxRecDepth 100000
set_option maxHeartbeats 8000000
theorem c_cloneH (l : List Charge) (hl : 0 < l.length ∧ l.length ≤ 100000) : ACall Tryz.prog 95 [.pv (.sl 2 (l.map Charge.row))] [] (fun r H' => r = .ms 0 2 0 l.length ∧ H' = [some ⟨98, 2, false, .p (l.map Charge.row)⟩]) := by
  obtain ⟨hl0, hl⟩ := hl
  rcases l with _ | ⟨x, l⟩
  · exact absurd hl0 (by simp)
  refine acall_of tok mixed 8 rfl (fn := Tryz.f95) (c := Tryz.f95.body.getD .skip) (by kernel_rfl) (by kernel_rfl) (by kernel_rfl) rfl 0 rfl ?_
  repeat' (first | ((show rowsLen _ * _ ≤ _; simp [rowsLen] at *; omega)) | ((show rowsLen _ ≤ _; simp [rowsLen] at *; omega)) | (refine eqv_to (Rows.p ((x :: l).map Charge.row)) rfl (eqv_to (x :: l).length (by simp [rowsLen]) ?_)) | refine o1 ?_ | refine o2 ?_ | refine k1 ?_ | refine k2 ?_ | refine k3 ?_ | refine k6 ?_ | refine k7 ?_ | refine And.intro ?_ ?_ | (intro h; first | exact Bool.noConfusion h | exact nz _ h | exact nl h | (simp at h; done) | (simp at h; first | (exfalso; omega) | skip) | skip) | (refine (?_ : srcLen _ = rowsLen _); rfl) | (refine (?_ : _ = rowsLen _); simp [rowsLen] <;> omega) | fail)
  exact ret_obj [1] [some ⟨98, 2, false, .p ((x :: l).map Charge.row)⟩] rfl rfl ⟨rfl, trivial⟩ (r' := .ms 0 2 0 (x :: l).length) rfl ⟨rfl, rfl⟩
set_option maxHeartbeats 2000000 in
theorem clone_emptyH (ad : Option Addr) (cap : Nat) (w : World) : Calls Tryz.prog 95 #[.slice ad 0 cap] w fun e w' => ∃ ad', e = .returned (.slice ad' 0 0) ∧ w'.ownsRow w.heap.size 98 2 (.slice ad' 0 0) 0 [] ∧ Below w.heap.size w w' ∧ w.drawn ≤ w'.drawn := by
  have t4 := Tryz.underlying4; have a4 := Tryz.isAgg4; have z4 := Tryz.sizeOf4; have v4 := Tryz.zeroValue4
  have t9 := Tryz.underlying98; have a9 := Tryz.isAgg98; have z9 := Tryz.sizeOf98; have v9 := Tryz.zeroValue98
  have t28 := Tryz.underlying60; have a28 := Tryz.isAgg60; have z28 := Tryz.sizeOf60; have v28 := Tryz.zeroValue60
  have mx : Tryz.prog.follows .mixedOrders = true := mixed
  have q28 : ∀ (w : World) (a : Option Addr) (n c n' c' : Nat), (binOp .eql 60 (.slice a n c) (.slice none n' c')).run Tryz.prog w = .ok (.bool a.isNone) w := fun w a n c n' c' => Lib.run_eql_slice_nil w _ _ a n c n' c' t28
  have u28 : ∀ w, Sem.run Tryz.prog (underlying 60) w = .ok (TypeDesc.slice 98) w := run_underlying t28
  cases ad with
  | none =>
    go_enter Tryz.func95, Tryz.ntmps95
    go_wp2
    go_ret
    exact ⟨_, rfl, ⟨rfl, .inl ⟨rfl, rfl⟩⟩, Below.refl _ w, Nat.le_refl _⟩
  | some a =>
    go_enter Tryz.func95, Tryz.ntmps95
    go_wp2
    go_ret
    exact ⟨_, rfl, World.ownsRow_made w #[] 0 (Nat.le_refl _) (Nat.zero_le _) rfl, (Below.refl _ w).alloc (Nat.le_refl _) _, Nat.le_refl _⟩
theorem c_cloneHE (x0 : Charge) : PCall Tryz.prog 95 [.pv (.sl 2 [])] (fun r => r = .clip 2 []) := by
  refine ⟨(c_cloneH [x0] ⟨by simp, by simp⟩).1, fun I β w vs hH hs ha => ?_⟩
  have hv := ha 0 _ rfl
  obtain rfl : β = [] := List.eq_nil_of_length_eq_zero hH.len
  obtain ⟨v, rfl⟩ : ∃ v, vs = #[v] := ⟨vs[0]'(by rw [hs]; decide), by
    apply Array.ext
    · exact hs
    · intro i h1 h2
      have : i = 0 := by simp at h2; omega
      subst this; rfl⟩
  have hv : ARel I [] w (.pv (.sl 2 [])) v := hv
  obtain ⟨ad, cap, rfl⟩ : ∃ ad cap, v = .slice ad 0 cap := by
    cases hv with
    | pv h =>
      have h : PRel I w (.sl 2 []) v := h
      cases h with
      | sl u hc h1 h2 => exact ⟨_, _, rfl⟩
  refine (clone_emptyH ad cap w).mono ?_
  rintro e w' ⟨v', rfl, ho, hb, hd⟩
  obtain ⟨I', β', h1, h2, h3⟩ := own_none hH ho hb hd
  refine ⟨_, _, I', β', _, rfl, ⟨rfl, rfl⟩, h1, ?_, h3⟩
  cases h2 with
  | pv h => exact .clip (n := 0) h
theorem c_cloneL1 (l : List Load) (hl : 0 < l.length ∧ l.length ≤ 100000) : PCall Tryz.prog 96 [.pv (.sl 3 (l.map Load.row))] (fun r => r = .pv (.sl 3 (l.map Load.row))) := by
  obtain ⟨hl0, hl⟩ := hl
  rcases l with _ | ⟨x, l⟩
  · exact absurd hl0 (by simp)
  refine acall_of tok mixed 8 rfl (fn := Tryz.f96) (c := Tryz.f96.body.getD .skip) (by kernel_rfl) (by kernel_rfl) (by kernel_rfl) rfl 0 rfl ?_
  repeat' (first | ((show rowsLen _ * _ ≤ _; simp [rowsLen] at *; omega)) | ((show rowsLen _ ≤ _; simp [rowsLen] at *; omega)) | (refine eqv_to (Rows.p ((x :: l).map Load.row)) rfl (eqv_to (x :: l).length (by simp [rowsLen]) ?_)) | refine o1 ?_ | refine o2 ?_ | refine k1 ?_ | refine k2 ?_ | refine k3 ?_ | refine k6 ?_ | refine k7 ?_ | refine And.intro ?_ ?_ | (intro h; first | exact Bool.noConfusion h | exact nz _ h | exact nl h | (simp at h; done) | (simp at h; first | (exfalso; omega) | skip) | skip) | (refine (?_ : srcLen _ = rowsLen _); rfl) | (refine (?_ : _ = rowsLen _); simp [rowsLen] <;> omega) | fail)
  refine ret_pure (r0 := .pv (.sl 3 (((x :: l).map Load.row).drop 0 |>.take (x :: l).length))) rfl ?_ ?_
  · show 0 + _ ≤ List.length _
    rw [List.length_map, Nat.zero_add]; exact Nat.le_refl _
  · rw [List.drop_zero, List.take_of_length_le (by rw [List.length_map]; exact Nat.le_refl _)]
theorem c_cloneLP (l : List Load) (hl : l.length ≤ 100000) : PCall Tryz.prog 96 [.pv (.sl 3 (l.map Load.row))] (fun r => r = .pv (.sl 3 (l.map Load.row))) := by
  rcases l with _ | ⟨x, l⟩
  · exact c_cloneLE ⟨0, 0, 0⟩
  · exact c_cloneL1 (x :: l) ⟨by simp, hl⟩
theorem c_cloneI1 (l : List Int) (hl : 0 < l.length ∧ l.length ≤ 100000) : PCall Tryz.prog 44 [.pv (.sl 1 (l.map intRow))] (fun r => r = .pv (.sl 1 (l.map intRow))) := by
  obtain ⟨hl0, hl⟩ := hl
  rcases l with _ | ⟨x, l⟩
  · exact absurd hl0 (by simp)
  refine acall_of tok mixed 8 rfl (fn := Tryz.f44) (c := Tryz.f44.body.getD .skip) (by kernel_rfl) (by kernel_rfl) (by kernel_rfl) rfl 0 rfl ?_
  repeat' (first | ((show rowsLen _ * _ ≤ _; simp [rowsLen] at *; omega)) | ((show rowsLen _ ≤ _; simp [rowsLen] at *; omega)) | (refine eqv_to (Rows.p ((x :: l).map intRow)) rfl (eqv_to (x :: l).length (by simp [rowsLen]) ?_)) | refine o1 ?_ | refine o2 ?_ | refine k1 ?_ | refine k2 ?_ | refine k3 ?_ | refine k6 ?_ | refine k7 ?_ | refine And.intro ?_ ?_ | (intro h; first | exact Bool.noConfusion h | exact nz _ h | exact nl h | (simp at h; done) | (simp at h; first | (exfalso; omega) | skip) | skip) | (refine (?_ : srcLen _ = rowsLen _); rfl) | (refine (?_ : _ = rowsLen _); simp [rowsLen] <;> omega) | fail)
  refine ret_pure (r0 := .pv (.sl 1 (((x :: l).map intRow).drop 0 |>.take (x :: l).length))) rfl ?_ ?_
  · show 0 + _ ≤ List.length _
    rw [List.length_map, Nat.zero_add]; exact Nat.le_refl _
  · rw [List.drop_zero, List.take_of_length_le (by rw [List.length_map]; exact Nat.le_refl _)]
theorem c_cloneIP (l : List Int) (hl : l.length ≤ 100000) : PCall Tryz.prog 44 [.pv (.sl 1 (l.map intRow))] (fun r => r = .pv (.sl 1 (l.map intRow))) := by
  rcases l with _ | ⟨x, l⟩
  · exact c_cloneIE 0
  · exact c_cloneI1 (x :: l) ⟨by simp, hl⟩
end Go.Proofs.YtihpjcmloecaaaaGreat.Cw
/-
  twin.Model: a copy of a model whose classes, options and charges are objects of their own.
-/
namespace Go.Proofs.YtihpjcmloecaaaaGreat.Cw
open Go Go.Cw Go.Proofs
set_option linter.unusedVariables false
set_option maxRecDepth 100000
set_option maxHeartbeats 30000000
theorem far_slC {k m id z : Nat} {rows : List (List AV)} (h : id < k ∨ k + m ≤ id) : far k m (slC id z rows) = true := by
  cases rows with
  | nil => rfl
  | cons a l => simp [slC, far]; exact h
theorem farH_obM {k m i ty z : Nat} {rows : List (List AV)} {Y : Heap} (hi : i < k ∨ k + m ≤ i) (h : ∀ r ∈ rows, farL k m r = true) (hy : farH k m (i + 1) Y) : farH k m i (obM ty z rows :: Y) := by
  cases rows with
  | nil => exact hy
  | cons a l => exact ⟨hi, h, hy⟩
theorem farH_obP {k m i ty z : Nat} {rows : List (List PV)} {Y : Heap} (hi : i < k ∨ k + m ≤ i) (hy : farH k m (i + 1) Y) : farH k m i (obP ty z rows :: Y) := by
  cases rows with
  | nil => exact hy
  | cons a l => exact ⟨hi, True.intro, hy⟩
def shF (F : Nat) : Nat → Nat := fun q => q + F
section
variable {H Hc Y : Heap} {d F n i ty z s id : Nat} {rn fx l : List Nat} {rows rows' : List (List AV)} {x x' y' z' : AV} {r : Int} {A : List (List Opt)} {lo : List Opt} {Γ : Slots}
theorem kept_obM (h : H[i]? = some (obM ty z rows')) (hr : rows.map (renL d rn) = rows') (hk : kept H d rn l Hc) : kept H d rn (i :: l) (obM ty z rows :: Hc) := by
  subst hr
  cases rows with
  | nil => exact hk
  | cons a b => exact ⟨h, hk⟩
theorem slot_slC (h : Cw.get Γ s = some (slC (rn.getD id d) z rows')) (hr : rows.map (renL d rn) = rows') : Cw.get Γ s = some (renC d rn (slC id z rows)) := by
  rw [slC_ren, hr]; exact h
theorem kept_T (hF : fx.length = F) (hY : Y.length = n) (hid : Y.map (renOpt d (fx ++ List.range' F n)) = Y) (hH : ∀ (q : Nat) (o : AObj), Y[q]? = some (some o) → H[q + F]? = some (some o)) : kept H d (fx ++ List.range' F n) (List.range' F n) Y :=
  kept_map (by rw [List.length_range', hY]) fun q i hq o ho => by
    rw [hid] at ho
    have hq2 : q < n := by rw [← hY]; exact (List.getElem?_eq_some_iff.1 ho).1
    rw [List.getElem?_range' hq2, Nat.one_mul] at hq
    injection hq with hq
    rw [← hq, Nat.add_comm]
    exact hH q o ho
theorem join_S {P : Program} {T : Tab} {n nh : Nat} {a b : Code} {Q : Exit → Slots → Heap → Prop} {Γ : Slots} {H : Heap} (G : Slots) (Hp : Heap) (h : xCode P T n nh a (thenQ (fun Γ' H' => Ghost n nh Γ' H' G Hp) Q) Γ H) (k : xCode P T n nh b Q G Hp) : xCode P T n nh (.seq a b) Q Γ H := by
  refine code_join (fun S => S = ⟨G, Hp⟩) ?_ (fun S hS => by subst hS; exact k)
  have : (fun Γ' H' => ∃ S : ASt, S = ⟨G, Hp⟩ ∧ Ghost n nh Γ' H' S.sl S.hp) = fun Γ' H' => Ghost n nh Γ' H' G Hp := by
    funext Γ' H'
    exact propext ⟨fun ⟨S, h1, h2⟩ => by subst h1; exact h2, fun h => ⟨_, rfl, h⟩⟩
  rw [this]
  exact h
theorem tailF_id (hF : fx.length = F) (h : nT A ≤ n) : (tailF (shF F) 0 A).map (renOpt d (fx ++ List.range' F n)) = tailF (shF F) 0 A := by
  rw [tailF_ren]
  exact tailF_congr fun q _ h2 => rnF_get hF (by omega)
theorem clsF_id (hF : fx.length = F) (h : nT A ≤ n) : (clsF (shF F) 0 A).map (renL d (fx ++ List.range' F n)) = clsF (shF F) 0 A := by
  rw [clsF_ren]
  exact clsF_congr fun q _ h2 => rnF_get hF (by omega)
theorem rowsF_id {j : Nat} (hF : fx.length = F) (h : j + lo.length ≤ n) : (rowsF (shF F) j lo).map (renL d (fx ++ List.range' F n)) = rowsF (shF F) j lo := by
  rw [rowsF_ren]
  exact rowsF_congr fun q _ h2 => rnF_get hF (by omega)
end
theorem keep_nil {Γ : Slots} : ∀ s x, Cw.get [] s = some x → Cw.get Γ s = some x := fun s x h => by cases h
theorem keep_cons {Γ G : Slots} {k : Nat} {v : AV} (h1 : Cw.get Γ k = some v) (h2 : ∀ s x, Cw.get G s = some x → Cw.get Γ s = some x) : ∀ s x, Cw.get ((k, v) :: G) s = some x → Cw.get Γ s = some x := fun s x h => by
  unfold Go.Cw.get at h
  cases hk : Nat.beq k s
  · rw [hk] at h; exact h2 s x h
  · rw [hk] at h
    obtain rfl := Nat.eq_of_beq_eq_true hk
    rw [h1]; exact h
theorem back_same {n nh : Nat} {Γ G : Slots} {H : Heap} (h : ∀ s x, Cw.get G s = some x → Cw.get Γ s = some x) : Ghost n nh Γ H G H := Ghost.keep h
theorem stop_at {p : Prop} (h : Later p) : p := h.go
theorem refSlots_app {d : Nat} {rn : List Nat} {Γ : Slots} : ∀ {a b : Slots}, refSlots d rn Γ a → refSlots d rn Γ b → refSlots d rn Γ (a ++ b)
  | [], _, _, h => h
  | (_, _) :: _, _, h1, h2 => ⟨h1.1, refSlots_app h1.2 h2⟩
theorem rnE_get {F n x t d : Nat} {fx : List Nat} (hF : fx.length = F) (ht : t ≤ n) : (fx ++ (List.range' F n ++ [x])).getD (t + F) d = if t = n then x else t + F := by
  rw [List.getD_eq_getElem?_getD, List.getElem?_append_right (by omega), hF, Nat.add_sub_cancel]
  by_cases e : t = n
  · subst e
    rw [if_pos rfl, List.getElem?_append_right (by rw [List.length_range']; exact Nat.le_refl _), List.length_range', Nat.sub_self]
    rfl
  · rw [if_neg e, List.getElem?_append_left (by rw [List.length_range']; omega), List.getElem?_range' (by omega), Nat.one_mul]
    show F + t = t + F
    omega
theorem rnE_allD {F n x : Nat} {fx : List Nat} (h : allD (fx ++ [x]) = true) (hx : ∀ a ∈ fx ++ [x], a < F ∨ a = F + n) : allD (fx ++ (List.range' F n ++ [x])) = true := by
  apply allD_of
  have hn := nodup_of_allD h
  rw [List.nodup_append] at hn ⊢
  refine ⟨hn.1, ?_, fun a ha b hb e => ?_⟩
  · rw [List.nodup_append]
    refine ⟨List.nodup_range', by simp, fun a ha b hb e => ?_⟩
    rw [List.mem_range'_1] at ha
    have := hx b (List.mem_append_right _ hb); omega
  · subst e
    rcases List.mem_append.1 hb with hb | hb
    · rw [List.mem_range'_1] at hb
      have := hx a (List.mem_append_left _ ha); omega
    · exact hn.2.2 a ha a hb rfl
theorem call_none {P : Program} {f : FuncId} {as0 : List AV} {x : AV} (h : PCall P f as0 (fun r => r = x)) : ACall P f as0 [] (fun r H' => r = x ∧ H' = [none]) := by
  refine ⟨h.1, fun I β w vs hH hs ha => (h.2 I β w vs hH hs ha).mono ?_⟩
  rintro e w' ⟨r, H', I', β', v, he, ⟨rfl, rfl⟩, h1, h2, h3⟩
  obtain rfl : β = [] := List.eq_nil_of_length_eq_zero hH.len
  obtain rfl : β' = [] := List.eq_nil_of_length_eq_zero h1.len
  have no : ∀ (i : Nat) (b : Nat × Nat), ¬ ([none] : Beta)[i]? = some (some b) := fun i b hb => by
    cases i with
    | zero => cases hb
    | succ i => simp at hb
  have noO : ∀ (i : Nat) (o : AObj), ¬ ([none] : Heap)[i]? = some (some o) := fun i b hb => by
    cases i with
    | zero => cases hb
    | succ i => simp at hb
  refine ⟨_, [none], I', [none], v, he, ⟨rfl, rfl⟩, ⟨rfl, fun i o ho => absurd ho (noO i o), fun i j oi oj b b' hi => absurd hi (noO i oi), h1.imm, fun i b hb => absurd hb (no i b)⟩, h2.mono (fun b hb => ⟨rfl, hb⟩) (fun i b hb => by simp at hb) (fun _ _ _ hs => hs), ?_⟩
  exact ⟨h3.os, h3.tape, h3.output, h3.size, fun i b hb => by simp at hb, fun i b hb => absurd hb (no i b), h3.keep, h3.keepI, h3.old, h3.shape, h3.drawn⟩
theorem c_cloneQ (l : List Charge) (hl : l.length ≤ 100000) : ACall Tryz.prog 95 [.pv (.sl 2 (l.map Charge.row))] [] (fun r H' => r = chC 0 l ∧ H' = [chO l]) := by
  cases l with
  | nil => exact call_none (c_cloneHE ⟨0, 0⟩)
  | cons c t => exact c_cloneH (c :: t) ⟨by simp, hl⟩
theorem call_clone {H : Heap} {P : Program} {f : FuncId} {args : List AV} {K : AV → Heap → Prop} {N : Nat} {l : List Charge} (as0 : List AV) (hN : H.length = N) (ha : args = renL H.length [] as0) (hc : ACall P f as0 [] (fun r H' => r = chC 0 l ∧ H' = [chO l])) (hK : K (chC N l) (H ++ [chO l])) : vcFun P f args H K := by
  refine call_obj [] [] as0 rfl trivial ha hc fun r Hc' hp => ?_
  obtain ⟨rfl, rfl⟩ := hp
  subst hN
  refine ⟨Nat.zero_le _, ?_⟩
  have e : renC 0 (tabl H.length ([chO l].length - 0)) (chC 0 l) = chC H.length l := by rw [chC_ren]; rfl
  have e2 : taken 0 (tabl H.length ([chO l].length - 0)) [] [chO l] H = H ++ [chO l] := by
    simp only [taken, List.map_cons, List.map_nil, chO_ren]
  simp only [List.length_nil, List.nil_append] at *
  rw [e, e2]; exact hK
def boxA (m : Model) : Option AObj := some ⟨29, 4, false, .box (pvs m.cells)⟩
def boxB : Option AObj := some ⟨29, 4, false, .box [nilA, nilA, nilA, .pv (ei 0)]⟩
def boxM (x y z : AV) (r : Int) : Option AObj := some ⟨29, 4, false, .box [x, y, z, .pv (ei r)]⟩
def hpO (m : Model) (A : List (List Opt)) (x : Option AObj) : Heap := boxA m :: boxB :: boxM (slC 3 1 (clsF (shF 8) 0 A)) nilA nilA m.rules :: obM 51 1 (clsF (shF 8) 0 A) :: x :: none :: none :: none :: tailF (shF 8) 0 A
theorem kept_boxM {H Hc : Heap} {d i : Nat} {rn l : List Nat} {x x' y z y' z' : AV} {r : Int} (h : H[i]? = some (boxM x' y' z' r)) (hx : renC d rn x = x') (hy : renC d rn y = y') (hz : renC d rn z = z') (hk : kept H d rn l Hc) : kept H d rn (i :: l) (boxM x y z r :: Hc) := by
  subst hx; subst hy; subst hz
  exact ⟨h, hk⟩
theorem back_opts {n i : Nat} {m : Model} {A : List (List Opt)} {l : List Opt} {o : Opt} {R RO : List (List AV)} {TT Tl : Heap} {c : AV} {x5 x6 : Option AObj} {Γ' G0 : Slots} (hR : clsF (shF 8) 0 A = R) (ho : l[i]? = some o)
    (hRO : rowsF (shF 8) (nT A) (l.take i) = RO) (hTT : tailF (shF 8) 0 A ++ chsO (l.take i) = TT) (hc : c = chC (TT.length + 8) o.charges) (hTl : ∀ (q : Nat) (x : AObj), (TT ++ [chO o.charges])[q]? = some (some x) → Tl[q]? = some (some x))
    (h6 : Cw.get Γ' 6 = some (.ms 7 6 0 (RO.length + 1))) (hG : ∀ d rest, refSlots d (0 :: 1 :: 2 :: 3 :: 7 :: 5 :: 6 :: 4 :: rest) Γ' G0) :
    Ghost n 0 Γ' (boxA m :: boxB :: boxM (slC 3 1 R) nilA nilA m.rules :: obM 51 1 R :: none :: x5 :: x6 :: some ⟨62, 6, false, .m (RO ++ [oRow c o.place])⟩ :: Tl)
      (G0 ++ [(6, slC 4 6 (rowsF (shF 8) (nT A) (l.take (i + 1))))]) (boxA m :: boxB :: boxM (slC 3 1 R) nilA nilA m.rules :: obM 51 1 R :: obM 62 6 (rowsF (shF 8) (nT A) (l.take (i + 1))) :: none :: none :: none :: (tailF (shF 8) 0 A ++ chsO (l.take (i + 1)))) := by
  have hi := (List.getElem?_eq_some_iff.1 ho).1
  have hto : l.take (i + 1) = l.take i ++ [o] := by
    rw [List.take_add_one, ho]; rfl
  have hlt : (l.take i).length = i := by rw [List.length_take]; omega
  have hTTl : TT.length = nT A + i := by rw [← hTT, List.length_append, tailF_len, chsO_len, hlt]
  have hro : rowsF (shF 8) (nT A) (l.take (i + 1)) = RO ++ [oRow c o.place] := by
    rw [hto, rowsF_app, hRO, hlt, hc, hTTl]
    simp only [rowsF, shF]
  have hch : chsO (l.take (i + 1)) = chsO (l.take i) ++ [chO o.charges] := by
    rw [hto]; simp [chsO]
  have hY : tailF (shF 8) 0 A ++ chsO (l.take (i + 1)) = TT ++ [chO o.charges] := by rw [hch, ← List.append_assoc, hTT]
  refine back ([0, 1, 2, 3, 7, 5, 6, 4] ++ List.range' 8 (nT A + i + 1)) (rnF_allD rfl (by decide)) rfl ?_ ?_
  · show kept _ _ _ (0 :: 1 :: 2 :: 3 :: 7 :: 5 :: 6 :: 4 :: List.range' 8 (nT A + i + 1)) _
    have hid := rowsF_id (d := (boxA m :: boxB :: boxM (slC 3 1 R) nilA nilA m.rules :: obM 51 1 R :: none :: x5 :: x6 :: some ⟨62, 6, false, .m (RO ++ [oRow c o.place])⟩ :: Tl).length) (F := 8) (fx := [0, 1, 2, 3, 7, 5, 6, 4]) (n := nT A + i + 1) (lo := l.take (i + 1)) (j := nT A) (by rfl) (by rw [List.length_take]; omega)
    refine ⟨rfl, rfl, kept_boxM rfl ?_ rfl rfl (kept_obM rfl ?_ (kept_obM (rows' := RO ++ [oRow c o.place]) ?_ ?_ (kept_T rfl ?_ ?_ ?_)))⟩
    · rw [slC_ren, ← hR, clsF_id (F := 8) (by rfl) (by omega)]; rfl
    · rw [← hR, clsF_id (F := 8) (by rfl) (by omega)]
    · rw [obM_app]; rfl
    · rw [hid, hro]
    · rw [hY, List.length_append, hTTl]; rfl
    · rw [hch, ← List.append_assoc, List.map_append, List.map_append, tailF_id (F := 8) (by rfl) (by omega), chsO_ren]
      simp only [List.map_cons, List.map_nil, chO_ren]
    · intro q x hx
      rw [hY] at hx
      exact hTl q x hx
  · exact refSlots_app (hG _ _) ⟨slot_slC (rows' := RO ++ [oRow c o.place]) (h6.trans (by rw [slC_app]; rfl)) (by rw [rowsF_id (F := 8) (fx := [0, 1, 2, 3, 7, 5, 6, 4]) (by rfl) (by rw [List.length_take]; omega), hro]), True.intro⟩
end Go.Proofs.YtihpjcmloecaaaaGreat.Cw
/-
  Symmetry: whether two rooms can be exchanged, by the program.
-/
namespace Go.Proofs.YtihpjcmloecaaaaGreat.Cw
open Go Go.Cw Go.Proofs
set_option linter.unusedVariables false
set_option maxRecDepth 100000
set_option maxHeartbeats 8000000
noncomputable def imN (l : List Opt) (a b : Int) (i : Nat) : Nat := (swapO l a b i).getD 0
theorem ok_imN {l : List Opt} {a b : Int} {i : Nat} (h : okO l a b i) : swapO l a b i = some (imN l a b i) ∧ imN l a b i < l.length := by
  obtain ⟨j, o, q, h1, h2, h3, -⟩ := h
  have : imN l a b i = j := by unfold imN; rw [h1]; rfl
  rw [this]
  exact ⟨h1, (List.getElem?_eq_some_iff.1 h3).1⟩
theorem imgs_get {l : List Opt} {a b : Int} (h : imgsP l a b) : ∀ {n : Nat}, n ≤ l.length → imgsL l a b n = (List.range n).map (imN l a b)
  | 0, _ => rfl
  | n + 1, hn => by
    rw [imgs_succ (ok_imN (h n (by omega))).1, imgs_get h (by omega), List.range_succ, List.map_append]; rfl
theorem imgs_at {l : List Opt} {a b : Int} (h : imgsP l a b) {i : Nat} (hi : i < l.length) : (imgsL l a b l.length)[i]? = some (imN l a b i) := by
  rw [imgs_get h (Nat.le_refl _), List.getElem?_map, List.getElem?_range hi]; rfl
theorem imgs_whole {l : List Opt} {a b : Int} (h : imgsP l a b) : (imgsL l a b l.length).length = l.length := by
  rw [imgs_get h (Nat.le_refl _), List.length_map, List.length_range]
def allImg (m : Model) (a b : Int) : Prop := ∀ l ∈ m.classes, imgsP l a b
def entSame (m : Model) (a b : Int) (p : Pair) : Prop := ∀ (x y : List Opt), m.classes[p.first.toNat]? = some x → m.classes[p.second.toNat]? = some y → ∀ i, i < x.length → ∀ k, k < y.length → entZ m p i k = entZ m p (imN x a b i) (imN y a b k)
noncomputable def imLoad (m : Model) (a b : Int) (l : Load) : Int := match m.classes[l.cls.toNat]? with
  | some x => imN x a b l.opt.toNat
  | none => 0
def cntSame (m : Model) (a b : Int) : Prop := countsV Load.opt m.counts = countsV (imLoad m a b) m.counts
def swapP (m : Model) (a b : Int) : Prop := allImg m a b ∧ (∀ p ∈ m.pairs, entSame m a b p) ∧ cntSame m a b
noncomputable def imgsAll (m : Model) (a b : Int) : List (List Nat) := m.classes.map fun l => imgsL l a b l.length
noncomputable def swapV (m : Model) (a b : Int) : List (List Nat) := if pB (swapP m a b) then imgsAll m a b else []
theorem leq_sw {m : Model} {a b : Int} (h : ¬ swapP m a b) : Leq (.tup [.pv (.val (.slice none 0 0)), .pv (.val (.bool false))]) (.tup [.pv (.sl 1 ((swapV m a b).map natsRow)), vbool (pB (swapP m a b))]) := by
  unfold swapV
  rw [if_neg (by rw [pB_f h]; simp), pB_f h]
  exact ⟨ALe.tup ⟨ALe.pv PLe.nil, ALe.refl, trivial⟩⟩
theorem good_load {m : Model} (hg : goodP m) {c : Count} (hc : c ∈ m.counts) {l : Load} (hl : l ∈ c.loads) : optionP m l.cls l.opt ∧ 1 ≤ l.weight := by
  obtain ⟨i, hi⟩ := List.getElem?_of_mem hl
  have := (hg.2.2 c hc).2.2.2.2 i (List.getElem?_eq_some_iff.1 hi).1 l hi
  exact ⟨this.1, this.2.1⟩
theorem all_at {m : Model} {a b : Int} {k : Nat} {l : List Opt} (h : m.classes[k]? = some l) : (imgsAll m a b)[k]? = some (imgsL l a b l.length) := by
  unfold imgsAll; rw [List.getElem?_map, h]; rfl
theorem all_rows {m : Model} {a b : Int} {i : Nat} {l : List Opt} (h : m.classes[i]? = some l) : ((m.classes.take (i + 1)).map fun l => imgsL l a b l.length) = ((m.classes.take i).map fun l => imgsL l a b l.length) ++ [imgsL l a b l.length] := by
  rw [tk_snoc h, List.map_append]; rfl
theorem charges_ge {m : Model} {o : Opt} (h : chargesP m o) : ∀ {i : Nat} {c : Charge}, o.charges[i]? = some c → (i : Int) ≤ c.rule ∧ c.rule < m.rules
  | 0, c, hc => by
    have := h 0 (List.getElem?_eq_some_iff.1 hc).1 c hc
    exact ⟨this.1.1, this.1.2⟩
  | i + 1, c, hc => by
    have hi := (List.getElem?_eq_some_iff.1 hc).1
    obtain ⟨b, hb⟩ := getE (show i < o.charges.length by omega)
    have ih := charges_ge h hb
    have := h (i + 1) hi c hc
    have h2 := this.2.2 i b rfl hb
    exact ⟨by omega, this.1.2⟩
theorem charges_len {m : Model} {o : Opt} (h : chargesP m o) (hr : m.rules ≤ 56) : o.charges.length ≤ 56 := by
  rcases Nat.eq_zero_or_pos o.charges.length with h0 | h0
  · omega
  · obtain ⟨c, hc⟩ := getE (show o.charges.length - 1 < o.charges.length by omega)
    have := charges_ge h hc
    omega
theorem loads_ge {m : Model} {c : Count} (hz : ∀ l ∈ m.classes, l.length ≤ 24) (h : ∀ i, i < c.loads.length → loadAt m c.loads i) : ∀ {i : Nat} {x : Load}, c.loads[i]? = some x → (i : Int) ≤ x.cls * 24 + x.opt ∧ 0 ≤ x.cls ∧ x.cls < m.classes.length ∧ 0 ≤ x.opt ∧ x.opt < 24
  | i, x, hx => by
    have hi := (List.getElem?_eq_some_iff.1 hx).1
    have hh := h i hi x hx
    obtain ⟨h1, h2, l, h3, h4⟩ := hh.1
    have h5 := hz l (List.mem_of_getElem? h3)
    have h6 := (List.getElem?_eq_some_iff.1 h3).1
    cases i with
    | zero => omega
    | succ i =>
      obtain ⟨y, hy⟩ := getE (show i < c.loads.length by omega)
      have ih := loads_ge hz h hy
      have h7 := hh.2.2.2 i y rfl hy
      omega
theorem loads_len {m : Model} {c : Count} (hz : sizedP m) (h : ∀ i, i < c.loads.length → loadAt m c.loads i) : c.loads.length ≤ 576 := by
  rcases Nat.eq_zero_or_pos c.loads.length with h0 | h0
  · omega
  · obtain ⟨x, hx⟩ := getE (show c.loads.length - 1 < c.loads.length by omega)
    have := loads_ge hz.2.1 h hx
    have h1 := hz.1
    omega
theorem c_swap2m {m : Model} {a b : Int} (ha : allImg m a b) {x : Load} (hx : optionP m x.cls x.opt) : PCall Tryz.prog 85 [ag x.row, .pv (.ia [.sl 1 ((imgsAll m a b).map natsRow)])] (fun r => r = vint .i64 (imLoad m a b x)) := by
  obtain ⟨h1, h2, l, h3, h4⟩ := hx
  have e : imLoad m a b x = (imN l a b x.opt.toNat : Int) := by unfold imLoad; rw [h3]
  rw [e]
  exact c_swap2 _ x _ _ h1 h2 (all_at h3) (imgs_at (ha l (List.mem_of_getElem? h3)) (by omega))
theorem c_swapM0 (m : Model) (a b : Int) (hz : sizedP m) (hg : goodP m) : PCall Tryz.prog 35 [ag m.cells, vint .i64 a, vint .i64 b] (fun r => Leq r (.tup [.pv (.sl 1 ((swapV m a b).map natsRow)), vbool (pB (swapP m a b))])) := by
  have hld : ∀ c ∈ m.counts, c.loads.length ≤ 576 := fun c hc => loads_len hz (hg.2.2 c hc).2.2.2.2
  obtain ⟨z1, z2, z3, z4, z5⟩ := hz
  refine acall_of tok mixed 95 rfl (fn := Tryz.f35) (c := Tryz.f35.body.getD .skip) (by kernel_rfl) (by kernel_rfl) (by kernel_rfl) rfl 0 rfl ?_
  repeat' (first | refine o1 ?_ | refine o2 ?_ | refine k1 ?_ | refine k2 ?_ | refine k4 ?_ | refine And.intro ?_ ?_ | exact (by kernel_rfl : drawOk _ _ = true) | refine eqv_len_map ?_ | fail)
  refine loop_for (fun i : Nat => [(1, vint .i64 a), (2, vint .i64 b), (3, .ptr 0 4 0 0), (8, .ptr 1 1 0 0), (22, .pv (.sl 1 (m.classes.map optsRow))), (23, vint .i64 m.classes.length), (24, vint .i64 i)])
    (fun i => [some ⟨29, 4, false, .box (pvs m.cells)⟩, some ⟨35, 1, false, .box [slP 2 1 (((m.classes.take i).map fun l => imgsL l a b l.length).map natsRow)]⟩, obP 22 1 (((m.classes.take i).map fun l => imgsL l a b l.length).map natsRow)])
    (fun i => i ≤ m.classes.length ∧ ∀ j, j < i → ∀ l, m.classes[j]? = some l → imgsP l a b) (fun i => m.classes.length - i) 0 ⟨Nat.zero_le _, fun j hj => by omega⟩ ?_ ?_
  · exact back [0, 1, 2] rfl rfl (by repeat' (first | exact trivial | exact rfl | refine And.intro ?_ ?_)) (by repeat' (first | exact trivial | exact rfl | refine And.intro ?_ ?_))
  intro i ⟨hi, hall⟩
  rcases Nat.lt_or_ge i m.classes.length with hlt | hge
  · obtain ⟨l, hl⟩ := getE hlt
    have hlm := List.mem_of_getElem? hl
    have him := c_images l a b (by have := z2 l hlm; omega) (fun o ho => by have := charges_len (hg.1 l hlm o ho) z5.2; omega)
    have htl : ((m.classes.take i).map fun l => imgsL l a b l.length).length ≤ 24 := by rw [List.length_map]; exact Nat.le_trans (List.length_take_le' ..) z1
    by_cases hp : imgsP l a b
    · have hV : imgsV l a b = imgsL l a b l.length := by unfold imgsV; rw [if_pos (pB_t hp)]
      have hnx := all_rows (a := a) (b := b) hl
      rw [pB_t hp, hV] at him
      generalize hRS : ((m.classes.take i).map fun l => imgsL l a b l.length) = RS at *
      repeat' (first | (refine fv_sl ?_) | (refine fh_ob ?_) | (refine idx_sl (k := i) (at_map hl) rfl ?_) | ((change vcFun _ _ _ _ _; refine call_frz rfl (by repeat' (first | trivial | refine And.intro ?_ ?_ | (show 0 + _ ≤ List.length _; simp))) ALeL.refl him ?_; rintro _ rfl)) | ((refine o_app rfl rfl rfl rfl rfl rfl rfl rfl rfl rfl rfl (by rw [List.length_map]; omega) (by rw [List.length_map]; omega) ?_)) | refine o1 ?_ | refine o2 ?_ | refine k1 ?_ | refine k2 ?_ | refine k3 ?_ | refine k4 ?_ | refine k6 ?_ | refine And.intro ?_ ?_ | (intro h; first | exact Bool.noConfusion h | exact nz _ h | exact nl h | (simp at h; done) | (simp at h; first | (exfalso; omega) | skip) | skip) | refine eqv_wrap (by omega) (by omega) ?_ | fail)
      refine ⟨i + 1, ⟨by omega, all_lt_succ hall fun l' h' => by rw [hl] at h'; cases h'; exact hp⟩, by omega, ?_⟩
      rw [hnx, map_snoc, sl_app, ob_app]
      exact back [0, 1, 4] rfl rfl (by repeat' (first | exact trivial | exact rfl | refine And.intro ?_ ?_)) (by repeat' (first | exact trivial | exact rfl | refine And.intro ?_ ?_))
    · rw [pB_f hp] at him
      have hno := leq_sw (m := m) (a := a) (b := b) fun k => hp (k.1 l hlm)
      repeat' (first | (refine fh_ob ?_) | (refine idx_sl (k := i) (at_map hl) rfl ?_) | ((change vcFun _ _ _ _ _; refine call_frz rfl (by repeat' (first | trivial | refine And.intro ?_ ?_ | (show 0 + _ ≤ List.length _; simp))) ALeL.refl him ?_; rintro _ rfl)) | refine o1 ?_ | refine o2 ?_ | refine k1 ?_ | refine k2 ?_ | refine k3 ?_ | refine k4 ?_ | refine k6 ?_ | refine k7 ?_ | refine And.intro ?_ ?_ | (intro h; first | exact Bool.noConfusion h | exact nz _ h | exact nl h | (simp at h; done) | (simp at h; first | (exfalso; omega) | skip) | skip) | (change retOk _ _ _ _; refine ret_pure rfl trivial ?_) | fail)
      exact hno
  · obtain rfl : i = m.classes.length := by omega
    rw [List.take_length]
    have hal : allImg m a b := fun l hl => by
      obtain ⟨j, hj⟩ := List.getElem?_of_mem hl
      exact hall j (List.getElem?_eq_some_iff.1 hj).1 l hj
    refine forceH_in ?_
    change xCode _ _ _ _ _ _ _ [_, some ⟨_, _, _, .box [slP 2 1 ((imgsAll m a b).map natsRow)]⟩, obP _ 1 ((imgsAll m a b).map natsRow)]
    refine ghost_seq (Γ' := [(1, vint .i64 a), (2, vint .i64 b), (3, .ptr 0 4 0 0), (8, .ptr 1 1 0 0), (23, vint .i64 m.classes.length), (24, vint .i64 m.classes.length)]) (H' := [some ⟨29, 4, false, .box (pvs m.cells)⟩, some ⟨35, 1, false, .box [.pv (.sl 1 ((imgsAll m a b).map natsRow))]⟩]) (Ghost.shut_sl (i := 1) (c := 0) (id := 2) rfl rfl rfl (by decide) fun H' hl h2 hH => back [0, 1] rfl rfl (And.intro (hH 0 (by decide) (by decide)) (And.intro h2 trivial)) (by repeat' (first | exact trivial | exact rfl | refine And.intro ?_ ?_))) ?_
    repeat' (first | refine o1 ?_ | refine o2 ?_ | refine k1 ?_ | refine k2 ?_ | refine k3 ?_ | refine k4 ?_ | refine k8 ?_ | refine And.intro ?_ ?_ | (intro h; first | exact Bool.noConfusion h | exact nz _ h | exact nl h | (simp at h; done) | (simp at h; first | (exfalso; omega) | skip) | skip) | refine eqv_len_map ?_ | fail)
    refine loop_for (fun i : Nat => [(3, .ptr 0 4 0 0), (8, .ptr 1 1 0 0), (43, .pv (.sl 4 (m.pairs.map Pair.row))), (44, vint .i64 m.pairs.length), (45, vint .i64 i)])
      (fun i => [some ⟨29, 4, false, .box (pvs m.cells)⟩, some ⟨35, 1, false, .box [.pv (.sl 1 ((imgsAll m a b).map natsRow))]⟩])
      (fun i => i ≤ m.pairs.length ∧ ∀ j, j < i → ∀ p, m.pairs[j]? = some p → entSame m a b p) (fun i => m.pairs.length - i) 0 ⟨Nat.zero_le _, fun j hj => by omega⟩ (back [0, 1] rfl rfl (by repeat' (first | exact trivial | exact rfl | refine And.intro ?_ ?_)) (by repeat' (first | exact trivial | exact rfl | refine And.intro ?_ ?_))) ?_
    intro i ⟨hi, hpa⟩
    rcases Nat.lt_or_ge i m.pairs.length with hlt | hge2
    · obtain ⟨p, hp⟩ := getE hlt
      have hpp := (hg.2.1 i hlt p hp).1
      obtain ⟨q1, q2, q3, ⟨x, y, hx, hy, q4⟩, q5⟩ := id hpp
      have hxa := hal x (List.mem_of_getElem? hx)
      have hya := hal y (List.mem_of_getElem? hy)
      have hxl := z2 x (List.mem_of_getElem? hx)
      have hyl := z2 y (List.mem_of_getElem? hy)
      have hxw := imgs_whole hxa
      have hyw := imgs_whole hya
      have hax := all_at (a := a) (b := b) hx
      have hay := all_at (a := a) (b := b) hy
      have hix := fun i hi => imgs_at hxa (i := i) hi
      have hiy := fun i hi => imgs_at hya (i := i) hi
      generalize imgsL x a b x.length = IX at hxw hax hix
      generalize imgsL y a b y.length = IY at hyw hay hiy
      obtain ⟨p1, p2, p3, p4⟩ := p
      dsimp only at q2 q3 hx hy hax hay
      have hk1 : p1 = (p1.toNat : Int) := by omega
      have hk2 : p2 = (p2.toNat : Int) := by omega
      repeat' (first | (refine idx_sl (k := i) (at_map hp) rfl ?_) | (refine idx_sl (k := p1.toNat) (at_map hax) hk1 ?_) | refine o1 ?_ | refine o2 ?_ | refine k1 ?_ | refine k2 ?_ | refine k3 ?_ | refine k4 ?_ | refine k6 ?_ | refine And.intro ?_ ?_ | (intro h; first | exact Bool.noConfusion h | exact nz _ h | exact nl h | (simp at h; done) | (simp at h; first | (exfalso; omega) | skip) | skip) | exact (by kernel_rfl : drawOk _ _ = true) | refine eqv_len_map ?_ | fail)
      refine loop_for (fun u : Nat => [(3, .ptr 0 4 0 0), (8, .ptr 1 1 0 0), (43, .pv (.sl 4 (m.pairs.map Pair.row))), (44, vint .i64 m.pairs.length), (45, vint .i64 i), (14, .ptr 2 4 0 0), (53, .pv (.sl 1 (IX.map natRow))), (54, vint .i64 IX.length), (55, vint .i64 u)])
        (fun u => [some ⟨29, 4, false, .box (pvs m.cells)⟩, some ⟨35, 1, false, .box [.pv (.sl 1 ((imgsAll m a b).map natsRow))]⟩, some ⟨72, 4, false, .box (pvs (Pair.row ⟨p1, p2, p3, p4⟩))⟩])
        (fun u => u ≤ x.length ∧ ∀ j, j < u → ∀ k, k < y.length → entZ m ⟨p1, p2, p3, p4⟩ j k = entZ m ⟨p1, p2, p3, p4⟩ (imN x a b j) (imN y a b k)) (fun u => x.length - u) 0 ⟨Nat.zero_le _, fun j hj => by omega⟩ (back [0, 1, 2] rfl rfl (by repeat' (first | exact trivial | exact rfl | refine And.intro ?_ ?_)) (by repeat' (first | exact trivial | exact rfl | refine And.intro ?_ ?_))) ?_
      intro u ⟨hu, hua⟩
      rcases Nat.lt_or_ge u x.length with hul | hug
      · repeat' (first | (refine idx_sl (k := u) (at_map (hix u hul)) rfl ?_) | (refine idx_sl (k := p2.toNat) (at_map hay) hk2 ?_) | refine o1 ?_ | refine o2 ?_ | refine k1 ?_ | refine k2 ?_ | refine k3 ?_ | refine k4 ?_ | refine k6 ?_ | refine And.intro ?_ ?_ | (intro h; first | exact Bool.noConfusion h | exact nz _ h | exact nl h | (simp at h; done) | (simp at h; first | (exfalso; omega) | skip) | skip) | refine eqv_len_map ?_ | fail)
        refine loop_for (fun k : Nat => [(3, .ptr 0 4 0 0), (8, .ptr 1 1 0 0), (43, .pv (.sl 4 (m.pairs.map Pair.row))), (44, vint .i64 m.pairs.length), (45, vint .i64 i), (14, .ptr 2 4 0 0), (53, .pv (.sl 1 (IX.map natRow))), (54, vint .i64 IX.length), (55, vint .i64 u), (15, vint .i64 u), (16, vint .i64 (imN x a b u)), (64, .pv (.sl 1 (IY.map natRow))), (65, vint .i64 IY.length), (66, vint .i64 k)])
          (fun k => [some ⟨29, 4, false, .box (pvs m.cells)⟩, some ⟨35, 1, false, .box [.pv (.sl 1 ((imgsAll m a b).map natsRow))]⟩, some ⟨72, 4, false, .box (pvs (Pair.row ⟨p1, p2, p3, p4⟩))⟩])
          (fun k => k ≤ y.length ∧ ∀ j, j < k → entZ m ⟨p1, p2, p3, p4⟩ u j = entZ m ⟨p1, p2, p3, p4⟩ (imN x a b u) (imN y a b j)) (fun k => y.length - k) 0 ⟨Nat.zero_le _, fun j hj => by omega⟩ (back [0, 1, 2] rfl rfl (by repeat' (first | exact trivial | exact rfl | refine And.intro ?_ ?_)) (by repeat' (first | exact trivial | exact rfl | refine And.intro ?_ ?_))) ?_
        intro k ⟨hk, hka⟩
        rcases Nat.lt_or_ge k y.length with hkl | hkg
        · obtain ⟨-, hju⟩ := ok_imN (hxa u hul)
          obtain ⟨-, hjk⟩ := ok_imN (hya k hkl)
          have hE1 := c_pentry m ⟨p1, p2, p3, p4⟩ u k y _ (by show 0 ≤ p2; omega) hy (by omega) (by omega) (by omega) (entZ_at hx hy hpp hul hkl)
          have hE2 := c_pentry m ⟨p1, p2, p3, p4⟩ (imN x a b u) (imN y a b k) y _ (by show 0 ≤ p2; omega) hy (by omega) (by omega) (by omega) (entZ_at hx hy hpp hju hjk)
          have hne : ¬ entZ m ⟨p1, p2, p3, p4⟩ u k = entZ m ⟨p1, p2, p3, p4⟩ (imN x a b u) (imN y a b k) → ¬ swapP m a b := fun h h2 => h (h2.2.1 _ (List.mem_of_getElem? hp) x y hx hy u hul k hkl)
          generalize hZ1 : entZ m ⟨p1, p2, p3, p4⟩ u k = Z1 at *
          generalize hZ2 : entZ m ⟨p1, p2, p3, p4⟩ (imN x a b u) (imN y a b k) = Z2 at *
          generalize hIU : imN x a b u = IU at *
          generalize hIK : imN y a b k = IK at *
          repeat' (first | (refine idx_sl (k := k) (at_map ((hiy k hkl).trans (congrArg some hIK))) rfl ?_) | refine o1 ?_ | refine o2 ?_ | refine k1 ?_ | refine k2 ?_ | refine k3 ?_ | refine k4 ?_ | refine k6 ?_ | refine k7 ?_ | refine And.intro ?_ ?_ | refine o3 ?_ | refine o4 ?_ | (intro h; first | exact Bool.noConfusion h | exact nz _ h | exact nl h | (simp at h; done) | (simp at h; first | (exfalso; omega) | skip) | skip) | (change retOk _ _ _ _; refine ret_pure rfl trivial ?_) | exact (by kernel_rfl : drawOk _ _ = true) | refine eqv_wrap (by omega) (by omega) ?_ | (change vcFunD _ _ _ _ _; refine callD_eq rfl (by repeat' (first | trivial | refine And.intro ?_ ?_ | (show 0 + _ ≤ List.length _; simp))) ALeL.refl (hE1) rfl ?_) | (change vcFunD _ _ _ _ _; refine callD_eq rfl (by repeat' (first | trivial | refine And.intro ?_ ?_ | (show 0 + _ ≤ List.length _; simp))) ALeL.refl (hE2) rfl ?_) | fail)
          all_goals first
            | exact leq_sw (hne (by assumption))
            | exact ⟨k + 1, ⟨by omega, all_lt_succ hka (by rw [hZ1, hIK, hZ2]; first | assumption | (exact Classical.not_not.1 (by assumption)))⟩, by omega, back [0, 1, 2] rfl rfl (by repeat' (first | exact trivial | exact rfl | refine And.intro ?_ ?_)) (by repeat' (first | exact trivial | exact rfl | refine And.intro ?_ ?_))⟩
        · obtain rfl : k = y.length := by omega
          repeat' (first | refine o1 ?_ | refine o2 ?_ | refine k1 ?_ | refine k2 ?_ | refine k3 ?_ | refine k8 ?_ | refine And.intro ?_ ?_ | (intro h; first | exact Bool.noConfusion h | exact nz _ h | exact nl h | (simp at h; done) | (simp at h; first | (exfalso; omega) | skip) | skip) | refine eqv_wrap (by omega) (by omega) ?_ | fail)
          exact ⟨u + 1, ⟨by omega, all_lt_succ hua fun j hj => hka j hj⟩, by omega, back [0, 1, 2] rfl rfl (by repeat' (first | exact trivial | exact rfl | refine And.intro ?_ ?_)) (by repeat' (first | exact trivial | exact rfl | refine And.intro ?_ ?_))⟩
      · obtain rfl : u = x.length := by omega
        repeat' (first | refine o1 ?_ | refine o2 ?_ | refine k1 ?_ | refine k2 ?_ | refine k3 ?_ | refine k8 ?_ | refine And.intro ?_ ?_ | (intro h; first | exact Bool.noConfusion h | exact nz _ h | exact nl h | (simp at h; done) | (simp at h; first | (exfalso; omega) | skip) | skip) | refine eqv_wrap (by omega) (by omega) ?_ | fail)
        exact ⟨i + 1, ⟨by omega, all_lt_succ hpa fun p' h' x' y' hx' hy' j hj k hk => by
          rw [hp] at h'; cases h'
          dsimp only at hx' hy'
          rw [hx] at hx'; cases hx'
          rw [hy] at hy'; cases hy'
          exact hua j hj k hk⟩, by omega, back [0, 1] rfl rfl (by repeat' (first | exact trivial | exact rfl | refine And.intro ?_ ?_)) (by repeat' (first | exact trivial | exact rfl | refine And.intro ?_ ?_))⟩
    · obtain rfl : i = m.pairs.length := by omega
      have hb := c_counts m 84 [] Load.opt (by omega) (fun c hc => by have := hld c hc; omega) (fun c hc l hl => c_swap1 l)
      have haf := c_counts m 85 [.ia [.sl 1 ((imgsAll m a b).map natsRow)]] (imLoad m a b) (by omega) (fun c hc => by have := hld c hc; omega) (fun c hc l hl => c_swap2m hal (good_load hg hc hl).1)
      have hlen : ∀ g, (countsV g m.counts).length ≤ 100000 := fun g => by unfold countsV; rw [srt_len, List.length_map]; omega
      have hll : ∀ g, ∀ c ∈ countsV g m.counts, c.loads.length ≤ 100000 := fun g c hc => by
        obtain ⟨d, hd, rfl⟩ := List.mem_map.1 ((srt_perm _).subset hc)
        have := hld d hd
        show (srt ldC (d.loads.map (optL g))).length ≤ _
        rw [srt_len, List.length_map]; omega
      have heq := c_equalC (countsV Load.opt m.counts) (countsV (imLoad m a b) m.counts) (hlen _) (hlen _) (hll _) (hll _)
      by_cases hcs : cntSame m a b
      · have hcs' : countsV Load.opt m.counts = countsV (imLoad m a b) m.counts := hcs
        rw [pB_t hcs'] at heq
        repeat' (first | ((change vcFun _ _ _ _ _; refine call_frz rfl (by repeat' (first | trivial | refine And.intro ?_ ?_ | (show 0 + _ ≤ List.length _; simp))) ALeL.refl hb ?_; rintro _ rfl)) | ((change vcFun _ _ _ _ _; refine call_frz rfl (by repeat' (first | trivial | refine And.intro ?_ ?_ | (show 0 + _ ≤ List.length _; simp))) ALeL.refl haf ?_; rintro _ rfl)) | refine o1 ?_ | refine o2 ?_ | refine k1 ?_ | refine k2 ?_ | refine k3 ?_ | refine k6 ?_ | refine k7 ?_ | refine k8 ?_ | refine And.intro ?_ ?_ | (intro h; first | exact Bool.noConfusion h | exact nz _ h | exact nl h | (simp at h; done) | (simp at h; first | (exfalso; omega) | skip) | skip) | (change retOk _ _ _ _; refine ret_pure rfl trivial ?_) | (change vcFun _ _ _ _ _; refine call_eq rfl (by repeat' (first | trivial | refine And.intro ?_ ?_ | (show 0 + _ ≤ List.length _; simp))) ALeL.refl (heq) rfl ?_) | fail)
        have hP : swapP m a b := ⟨hal, fun p hp => by
          obtain ⟨j, hj⟩ := List.getElem?_of_mem hp
          exact hpa j (List.getElem?_eq_some_iff.1 hj).1 p hj, hcs⟩
        rw [pB_t hP]
        unfold swapV
        rw [if_pos (pB_t hP)]
        exact ⟨ALe.refl⟩
      · have hcs' : ¬ countsV Load.opt m.counts = countsV (imLoad m a b) m.counts := hcs
        rw [pB_f hcs'] at heq
        repeat' (first | ((change vcFun _ _ _ _ _; refine call_frz rfl (by repeat' (first | trivial | refine And.intro ?_ ?_ | (show 0 + _ ≤ List.length _; simp))) ALeL.refl hb ?_; rintro _ rfl)) | ((change vcFun _ _ _ _ _; refine call_frz rfl (by repeat' (first | trivial | refine And.intro ?_ ?_ | (show 0 + _ ≤ List.length _; simp))) ALeL.refl haf ?_; rintro _ rfl)) | refine o1 ?_ | refine o2 ?_ | refine k1 ?_ | refine k2 ?_ | refine k3 ?_ | refine k7 ?_ | refine k8 ?_ | refine And.intro ?_ ?_ | (intro h; first | exact Bool.noConfusion h | exact nz _ h | exact nl h | (simp at h; done) | (simp at h; first | (exfalso; omega) | skip) | skip) | (change retOk _ _ _ _; refine ret_pure rfl trivial ?_) | (change vcFun _ _ _ _ _; refine call_eq rfl (by repeat' (first | trivial | refine And.intro ?_ ?_ | (show 0 + _ ≤ List.length _; simp))) ALeL.refl (heq) rfl ?_) | fail)
        exact leq_sw fun k => hcs k.2.2
theorem c_swapM (m : Model) (a b : Int) (hz : sizedP m) (hg : goodP m) : PCall Tryz.prog 35 [ag m.cells, vint .i64 a, vint .i64 b] (fun r => r = .tup [.pv (.sl 1 ((swapV m a b).map natsRow)), vbool (pB (swapP m a b))]) :=
  (c_swapM0 m a b hz hg).weak fun r k => ⟨_, k.le, rfl⟩
end Go.Proofs.YtihpjcmloecaaaaGreat.Cw
/-
  Symmetry: exchanges by the reference: the images, charges, weights.
-/
namespace Go.Proofs.YtihpjcmloecaaaaGreat.Cw
open Go Go.Cw Go.Proofs
set_option linter.unusedVariables false
set_option maxRecDepth 100000
set_option maxHeartbeats 8000000
def movI : Option Nat → Int
  | some j => j
  | none => -1
def wtL : List Load → Int → Int → Int
  | [], _, _ => 0
  | x :: l, c, o => if x.cls = c ∧ x.opt = o then x.weight else wtL l c o
end Go.Proofs.YtihpjcmloecaaaaGreat.Cw
/-
  Symmetry: Swap by the program; whether a count is the image of another one, by the reference.
-/
namespace Go.Proofs.YtihpjcmloecaaaaGreat.Cw
open Go Go.Cw Go.Proofs
set_option linter.unusedVariables false
set_option maxRecDepth 100000
set_option maxHeartbeats 8000000
def exP (m : Model) (a b : Int) : Prop := modelE m = 0 ∧ a ≠ b ∧ 0 ≤ a ∧ 0 ≤ b ∧ swapP m a b
noncomputable def exV (m : Model) (a b : Int) : List (List Nat) := if pB (exP m a b) then imgsAll m a b else []
theorem leq_ex {m : Model} {a b : Int} (h : ¬ exP m a b) : Leq (.tup [.pv (.val (.slice none 0 0)), .pv (.val (.bool false))]) (.tup [.pv (.sl 1 ((exV m a b).map natsRow)), vbool (pB (exP m a b))]) := by
  unfold exV
  rw [if_neg (by rw [pB_f h]; simp), pB_f h]
  exact ⟨ALe.tup ⟨ALe.pv PLe.nil, ALe.refl, trivial⟩⟩
theorem model_good {m : Model} (h : modelE m = 0) : goodP m := Classical.byContradiction fun hn => by rw [mE1 (model_sized h) hn] at h; cases h
theorem c_Swap0 (m : Model) (a b : Int) (hl : Laid m) : PCall Tryz.prog 13 [ag m.cells, vint .i64 a, vint .i64 b] (fun r => Leq r (.tup [.pv (.sl 1 ((exV m a b).map natsRow)), vbool (pB (exP m a b))])) := by
  have hv := c_valid m hl
  by_cases hok : modelE m = 0
  · have hsw := c_swapM m a b (model_sized hok) (model_good hok)
    rw [hok] at hv
    by_cases hab : a ≠ b ∧ 0 ≤ a ∧ 0 ≤ b
    · have e : exP m a b ↔ swapP m a b := ⟨fun h => h.2.2.2.2, fun h => ⟨hok, hab.1, hab.2.1, hab.2.2, h⟩⟩
      have e1 : pB (exP m a b) = pB (swapP m a b) := pB_iff e
      have e2 : exV m a b = swapV m a b := by unfold exV swapV; rw [e1]
      rw [e1, e2]
      refine acall_of tok mixed 30 rfl (fn := Tryz.f13) (c := Tryz.f13.body.getD .skip) (by kernel_rfl) (by kernel_rfl) (by kernel_rfl) rfl 0 rfl ?_
      repeat' (first | ((change vcFun _ _ _ _ _; refine call_frz rfl (by repeat' (first | trivial | refine And.intro ?_ ?_ | (show 0 + _ ≤ List.length _; simp))) ALeL.refl hsw ?_; rintro _ rfl)) | refine o1 ?_ | refine o2 ?_ | refine k1 ?_ | refine k2 ?_ | refine k3 ?_ | refine k6 ?_ | refine k7 ?_ | refine And.intro ?_ ?_ | (intro h; first | exact Bool.noConfusion h | exact nz _ h | exact nl h | (simp at h; done) | (simp at h; first | (exfalso; omega) | skip) | skip) | (change retOk _ _ _ _; refine ret_pure rfl trivial ?_) | (change vcFun _ _ _ _ _; refine call_eq rfl (by repeat' (first | trivial | refine And.intro ?_ ?_ | (show 0 + _ ≤ List.length _; simp))) ALeL.refl (hv) rfl ?_) | fail)
      all_goals first
        | (exfalso; omega)
        | exact ⟨ALe.refl⟩
    · have hno : ¬ exP m a b := fun h => hab ⟨h.2.1, h.2.2.1, h.2.2.2.1⟩
      refine acall_of tok mixed 30 rfl (fn := Tryz.f13) (c := Tryz.f13.body.getD .skip) (by kernel_rfl) (by kernel_rfl) (by kernel_rfl) rfl 0 rfl ?_
      repeat' (first | refine o1 ?_ | refine o2 ?_ | refine k1 ?_ | refine k2 ?_ | refine k3 ?_ | refine k7 ?_ | refine And.intro ?_ ?_ | (intro h; first | exact Bool.noConfusion h | exact nz _ h | exact nl h | (simp at h; done) | (simp at h; first | (exfalso; omega) | skip) | skip) | (change retOk _ _ _ _; refine ret_pure rfl trivial ?_) | (change vcFun _ _ _ _ _; refine call_eq rfl (by repeat' (first | trivial | refine And.intro ?_ ?_ | (show 0 + _ ≤ List.length _; simp))) ALeL.refl (hv) rfl ?_) | fail)
      all_goals first
        | (exfalso; omega)
        | exact leq_ex hno
        | (exfalso; exact hab ⟨by assumption, by omega, by omega⟩)
  · have hno : ¬ exP m a b := fun h => hok h.1
    generalize modelE m = E at hv hok
    refine acall_of tok mixed 30 rfl (fn := Tryz.f13) (c := Tryz.f13.body.getD .skip) (by kernel_rfl) (by kernel_rfl) (by kernel_rfl) rfl 0 rfl ?_
    repeat' (first | refine o1 ?_ | refine o2 ?_ | refine k1 ?_ | refine k2 ?_ | refine k3 ?_ | refine k7 ?_ | refine And.intro ?_ ?_ | (intro h; first | exact Bool.noConfusion h | exact nz _ h | exact nl h | (simp at h; done) | (simp at h; first | (exfalso; omega) | skip) | skip) | (change retOk _ _ _ _; refine ret_pure rfl trivial ?_) | (change vcFun _ _ _ _ _; refine call_eq rfl (by repeat' (first | trivial | refine And.intro ?_ ?_ | (show 0 + _ ≤ List.length _; simp))) ALeL.refl (hv) rfl ?_) | fail)
    all_goals first
      | (exfalso; omega)
      | exact leq_ex hno
theorem c_Swap (m : Model) (a b : Int) (hl : Laid m) : PCall Tryz.prog 13 [ag m.cells, vint .i64 a, vint .i64 b] (fun r => r = .tup [.pv (.sl 1 ((exV m a b).map natsRow)), vbool (pB (exP m a b))]) :=
  (c_Swap0 m a b hl).weak fun r k => ⟨_, k.le, rfl⟩
def imgd (g : Load → Int) (a b : Count) : Prop := a.rule = b.rule ∧ a.most = b.most ∧ a.penalty = b.penalty ∧ a.loads.length = b.loads.length ∧ ∀ (i : Nat) (x : Load), a.loads[i]? = some x → wtL b.loads x.cls (g x) = x.weight
end Go.Proofs.YtihpjcmloecaaaaGreat.Cw
/-
  Symmetry, plain: counts are the same behind an exchange if and only if each has its image.
-/
namespace Go.Proofs.YtihpjcmloecaaaaGreat.Cw
open Go Go.Cw Go.Proofs
set_option linter.unusedVariables false
set_option maxRecDepth 100000
/-! ### One by one -/
section
variable {κ : Type}
def tkn : List Bool → List κ → List κ
  | true :: T, y :: ys => y :: tkn T ys
  | false :: T, _ :: ys => tkn T ys
  | _, _ => []
def utk : List Bool → List κ → List κ
  | true :: T, _ :: ys => utk T ys
  | false :: T, y :: ys => y :: utk T ys
  | _, _ => []
structure Grd (xs ys : List κ) (i : Nat) (T : List Bool) : Prop where
  len : T.length = ys.length
  perm : (tkn T ys).Perm (xs.take i)
end
/-! ### Images -/
theorem exch_inj {r s a b : Int} (h : exch r a b = exch s a b) : r = s := by
  unfold exch at h
  split at h <;> split at h <;> (try split at h) <;> (try split at h) <;> omega
theorem sameP_nodup {l : List Opt} {p : Placed} {n : Nat} : (sameP l p n).Nodup := List.Pairwise.filter _ List.nodup_range
theorem imN_inj {l : List Opt} {a b : Int} (h : imgsP l a b) {i j : Nat} (hi : i < l.length) (hj : j < l.length) (he : imN l a b i = imN l a b j) : i = j := by
  obtain ⟨h1, -⟩ := ok_imN (h i hi)
  obtain ⟨h2, -⟩ := ok_imN (h j hj)
  rw [he] at h1
  generalize imN l a b j = q at h1 h2
  obtain ⟨o, ho⟩ := getE hi
  obtain ⟨p, hp⟩ := getE hj
  rw [swap_of ho rfl] at h1
  rw [swap_of hp rfl] at h2
  unfold imgO at h1 h2
  rw [ho] at h1; rw [hp] at h2
  dsimp only at h1 h2
  obtain ⟨o1, k1, k2⟩ := placed_iff.1 (sameP_mem.1 (List.mem_of_getElem? h1)).2
  obtain ⟨o2, k3, k4⟩ := placed_iff.1 (sameP_mem.1 (List.mem_of_getElem? h2)).2
  rw [k1] at k3; cases k3
  have hw : withRoom o.place (exch o.place.room a b) = withRoom p.place (exch p.place.room a b) := k2.symm.trans k4
  have ht : o.place.time = p.place.time := by have := congrArg Placed.time hw; exact this
  have hr : o.place.room = p.place.room := exch_inj (by have := congrArg Placed.room hw; exact this)
  have hpl : o.place = p.place := by
    obtain ⟨⟨t, r⟩, c⟩ := o
    obtain ⟨⟨t', r'⟩, c'⟩ := p
    simp only at ht hr
    subst ht; subst hr; rfl
  rw [hpl] at h1
  have hnd := sameP_nodup (l := l) (p := withRoom p.place (exch p.place.room a b)) (n := l.length)
  have hK : (sameP l p.place i).length = (sameP l p.place j).length := by
    have e1 := (List.getElem?_eq_some_iff.1 h1)
    have e2 := (List.getElem?_eq_some_iff.1 h2)
    obtain ⟨b1, e1⟩ := e1
    obtain ⟨b2, e2⟩ := e2
    rcases Nat.lt_trichotomy (sameP l p.place i).length (sameP l p.place j).length with h | h | h
    · exact absurd (e1.trans e2.symm) (List.pairwise_iff_getElem.1 hnd _ _ b1 b2 h)
    · exact h
    · exact absurd (e2.trans e1.symm) (List.pairwise_iff_getElem.1 hnd _ _ b2 b1 h)
  have g1 := sameP_at (placed_t ho hpl) hi
  have g2 := sameP_at (placed_t hp rfl) hj
  rw [hK] at g1
  rw [g1] at g2
  injection g2
/-! ### Loads -/
def lkey (x : Load) : Int := x.cls * 24 + x.opt
section
variable {m : Model} {a b : Int}
theorem cnt_iff : cntSame m a b ↔ (m.counts.map (optC (imLoad m a b))).Perm (m.counts.map (optC Load.opt)) := by
  unfold cntSame countsV
  rw [srt_eq totCt]
  exact ⟨List.Perm.symm, List.Perm.symm⟩
end
end Go.Proofs.YtihpjcmloecaaaaGreat.Cw
/-
  Symmetry: Swap by the reference.
-/
namespace Go.Proofs.YtihpjcmloecaaaaGreat.Cw
open Go Go.Cw Go.Proofs
set_option linter.unusedVariables false
set_option maxRecDepth 100000
set_option maxHeartbeats 16000000
def boolRow (b : Bool) : List PV := [.val (.bool b)]
end Go.Proofs.YtihpjcmloecaaaaGreat.Cw
/-
  Symmetry: the rooms of a model, ascending, on both sides.
-/
namespace Go.Proofs.YtihpjcmloecaaaaGreat.Cw
open Go Go.Cw Go.Proofs
set_option linter.unusedVariables false
set_option maxRecDepth 100000
set_option maxHeartbeats 8000000
def roomL (l : List Opt) : List Int := (l.map fun o => o.place.room).filter fun r => decide (0 ≤ r)
def roomsR (c : List (List Opt)) : List Int := c.flatMap roomL
def roomsV (m : Model) : List Int := compactI (sortI (roomsR m.classes))
theorem roomL_t {l : List Opt} {k : Nat} {o : Opt} (h : l[k]? = some o) (hr : 0 ≤ o.place.room) : roomL (l.take (k + 1)) = roomL (l.take k) ++ [o.place.room] := by
  unfold roomL; rw [tk_snoc h, List.map_append, List.filter_append]; simp [hr]
theorem roomL_f {l : List Opt} {k : Nat} {o : Opt} (h : l[k]? = some o) (hr : ¬ 0 ≤ o.place.room) : roomL (l.take (k + 1)) = roomL (l.take k) := by
  unfold roomL; rw [tk_snoc h, List.map_append, List.filter_append]; simp; omega
theorem roomsR_succ {c : List (List Opt)} {i : Nat} {l : List Opt} (h : c[i]? = some l) : roomsR (c.take (i + 1)) = roomsR (c.take i) ++ roomL l := by
  unfold roomsR; rw [tk_snoc h, List.flatMap_append]; simp
theorem roomL_len {l : List Opt} : (roomL l).length ≤ l.length := by
  unfold roomL
  have := List.length_filter_le (fun r => decide ((0 : Int) ≤ r)) (l.map fun o => o.place.room)
  rwa [List.length_map] at this
theorem roomsR_len {c : List (List Opt)} (h : ∀ l ∈ c, l.length ≤ 24) : (roomsR c).length ≤ c.length * 24 := by
  induction c with
  | nil => simp [roomsR]
  | cons l c ih =>
    have h1 := ih fun x hx => h x (by simp [hx])
    have h2 := h l (by simp)
    have h3 := roomL_len (l := l)
    have e : roomsR (l :: c) = roomL l ++ roomsR c := rfl
    rw [e, List.length_append, List.length_cons]
    omega
theorem sl_ne {id z : Nat} {α : Type} {f : α → List PV} {L : List α} (h : L ≠ []) {n : Nat} (hn : L.length = n) : slP id z (L.map f) = .ms id z 0 n := by
  subst hn
  cases L with
  | nil => exact absurd rfl h
  | cons a l => simp [slP]
theorem ob_ne {ty z : Nat} {α : Type} {f : α → List PV} {L : List α} (h : L ≠ []) : obP ty z (L.map f) = some ⟨ty, z, false, .p (L.map f)⟩ := by
  cases L with
  | nil => exact absurd rfl h
  | cons a l => rfl
theorem c_numbers0 (m : Model) (hz : sizedP m) : PCall Tryz.prog 41 [ag m.cells] (fun r => Leq r (.pv (.sl 1 ((roomsV m).map intRow)))) := by
  obtain ⟨z1, z2, z3, z4, z5⟩ := hz
  have hRl : ∀ i, (roomsR (m.classes.take i)).length ≤ 576 := fun i => by
    have h1 := roomsR_len (c := m.classes.take i) fun l hl => z2 l (List.mem_of_mem_take hl)
    have h2 : (m.classes.take i).length ≤ 24 := Nat.le_trans (List.length_take_le' ..) z1
    omega
  refine acall_of tok mixed 37 rfl (fn := Tryz.f41) (c := Tryz.f41.body.getD .skip) (by kernel_rfl) (by kernel_rfl) (by kernel_rfl) rfl 0 rfl ?_
  repeat' (first | refine o1 ?_ | refine o2 ?_ | refine k1 ?_ | refine k2 ?_ | refine k4 ?_ | refine eqv_len_map ?_ | fail)
  refine loop_for (fun i : Nat => [(3, slP 1 1 ((roomsR (m.classes.take i)).map intRow)), (9, .pv (.sl 1 (m.classes.map optsRow))), (10, vint .i64 m.classes.length), (11, vint .i64 i)])
    (fun i => [none, obP 3 1 ((roomsR (m.classes.take i)).map intRow)])
    (fun i => i ≤ m.classes.length) (fun i => m.classes.length - i) 0 (Nat.zero_le _) ?_ ?_
  · exact back [0, 1] rfl rfl (by repeat' (first | exact trivial)) (by repeat' (first | exact trivial | exact rfl | refine And.intro ?_ ?_))
  intro i hi
  rcases Nat.lt_or_ge i m.classes.length with hlt | hge
  · obtain ⟨l, hl⟩ := getE hlt
    have hln := z2 l (List.mem_of_getElem? hl)
    have hnx := roomsR_succ hl
    have hR := hRl i
    generalize roomsR (m.classes.take i) = RS at *
    repeat' (first | (refine fh_ob ?_) | (refine idx_sl (k := i) (at_map hl) rfl ?_) | refine o1 ?_ | refine o2 ?_ | refine k1 ?_ | refine k2 ?_ | refine k3 ?_ | refine k4 ?_ | refine k6 ?_ | refine And.intro ?_ ?_ | (intro h; first | exact Bool.noConfusion h | exact nz _ h | exact nl h | (simp at h; done) | (simp at h; first | (exfalso; omega) | skip) | skip) | refine eqv_len_map ?_ | fail)
    refine loop_for (fun k : Nat => [(3, slP 1 1 ((RS ++ roomL (l.take k)).map intRow)), (9, .pv (.sl 1 (m.classes.map optsRow))), (10, vint .i64 m.classes.length), (11, vint .i64 i), (15, .pv (.sl 6 (l.map Opt.row))), (16, vint .i64 l.length), (17, vint .i64 k)])
      (fun k => [none, obP 3 1 ((RS ++ roomL (l.take k)).map intRow)])
      (fun k => k ≤ l.length) (fun k => l.length - k) 0 (Nat.zero_le _) ?_ ?_
    · rw [show RS ++ roomL (l.take 0) = RS by simp [roomL]]
      exact back [0, 1] rfl rfl (by repeat' (first | exact trivial | refine kept_ob rfl ?_)) (by repeat' (first | exact trivial | exact rfl | exact ren_get rfl | refine And.intro ?_ ?_))
    intro k hk
    rcases Nat.lt_or_ge k l.length with hkl | hkg
    · obtain ⟨o, ho⟩ := getE hkl
      have hk2 : (RS ++ roomL (l.take k)).length ≤ 600 := by
        have := roomL_len (l := l.take k)
        have h3 : (l.take k).length ≤ 24 := Nat.le_trans (List.length_take_le' ..) hln
        rw [List.length_append]; omega
      by_cases hr : 0 ≤ o.place.room
      · have hrs : RS ++ roomL (l.take (k + 1)) = (RS ++ roomL (l.take k)) ++ [o.place.room] := by rw [roomL_t ho hr, List.append_assoc]
        generalize RS ++ roomL (l.take k) = KS at *
        repeat' (first | (refine fv_sl ?_) | (refine fh_ob ?_) | (refine idx_sl (k := k) (at_map ho) rfl ?_) | ((refine o_app rfl rfl rfl rfl rfl rfl rfl rfl rfl rfl rfl (by rw [List.length_map]; omega) (by rw [List.length_map]; omega) ?_)) | refine o1 ?_ | refine o2 ?_ | refine k1 ?_ | refine k2 ?_ | refine k3 ?_ | refine k4 ?_ | refine k6 ?_ | refine And.intro ?_ ?_ | (intro h; first | exact Bool.noConfusion h | exact nz _ h | exact nl h | (simp at h; done) | (simp at h; first | (exfalso; omega) | skip) | skip) | exact (by kernel_rfl : drawOk _ _ = true) | refine eqv_wrap (by omega) (by omega) ?_ | fail)
        all_goals first
          | (exfalso; omega)
          | (refine ⟨k + 1, by omega, by omega, ?_⟩
             rw [hrs, map_snoc, sl_app, ob_app]
             exact back [0, 4] rfl rfl (by repeat' (first | exact trivial | exact rfl | refine And.intro ?_ ?_)) (by repeat' (first | exact trivial | exact rfl | refine And.intro ?_ ?_)))
      · have hrs : RS ++ roomL (l.take (k + 1)) = RS ++ roomL (l.take k) := by rw [roomL_f ho hr]
        repeat' (first | (refine fh_ob ?_) | (refine idx_sl (k := k) (at_map ho) rfl ?_) | refine o1 ?_ | refine o2 ?_ | refine k1 ?_ | refine k2 ?_ | refine k3 ?_ | refine k4 ?_ | refine k6 ?_ | refine And.intro ?_ ?_ | (intro h; first | exact Bool.noConfusion h | exact nz _ h | exact nl h | (simp at h; done) | (simp at h; first | (exfalso; omega) | skip) | skip) | exact (by kernel_rfl : drawOk _ _ = true) | refine eqv_wrap (by omega) (by omega) ?_ | fail)
        all_goals first
          | (exfalso; omega)
          | (refine ⟨k + 1, by omega, by omega, ?_⟩
             rw [hrs]
             exact back [0, 1] rfl rfl (by repeat' (first | exact trivial | refine kept_ob rfl ?_)) (by repeat' (first | exact trivial | exact rfl | exact ren_get rfl | refine And.intro ?_ ?_)))
    · obtain rfl : k = l.length := by omega
      rw [List.take_length, ← hnx]
      repeat' (first | (refine fh_ob ?_) | refine o1 ?_ | refine o2 ?_ | refine k1 ?_ | refine k2 ?_ | refine k3 ?_ | refine k8 ?_ | refine And.intro ?_ ?_ | (intro h; first | exact Bool.noConfusion h | exact nz _ h | exact nl h | (simp at h; done) | (simp at h; first | (exfalso; omega) | skip) | skip) | refine eqv_wrap (by omega) (by omega) ?_ | fail)
      exact ⟨i + 1, by omega, by omega, back [0, 1] rfl rfl (by repeat' (first | exact trivial | refine kept_ob rfl ?_)) (by repeat' (first | exact trivial | exact rfl | exact ren_get rfl | refine And.intro ?_ ?_))⟩
  · obtain rfl : i = m.classes.length := by omega
    have hR := hRl m.classes.length
    rw [List.take_length] at hR ⊢
    by_cases hne : roomsR m.classes = []
    · have e : roomsV m = [] := by
        have h1 := compactI_len (sortI (roomsR m.classes))
        rw [sortI_len, hne] at h1
        unfold roomsV; rw [hne]; exact List.eq_nil_of_length_eq_zero (Nat.le_zero.1 h1)
      rw [hne, e]
      repeat' (first | (refine fh_ob ?_) | refine o1 ?_ | refine o2 ?_ | refine k1 ?_ | refine k2 ?_ | refine k3 ?_ | refine k7 ?_ | refine k8 ?_ | refine And.intro ?_ ?_ | (intro h; first | exact Bool.noConfusion h | exact nz _ h | exact nl h | (simp at h; done) | (simp at h; first | (exfalso; omega) | skip) | skip) | (change retOk _ _ _ _; refine ret_pure rfl trivial ?_) | (change vcFun _ _ _ _ _; refine call_eq rfl (by repeat' (first | trivial | refine And.intro ?_ ?_ | (show 0 + _ ≤ List.length _; simp))) ALeL.refl (c_sortI0) rfl ?_) | (change vcFun _ _ _ _ _; refine call_eq rfl (by repeat' (first | trivial | refine And.intro ?_ ?_ | (show 0 + _ ≤ List.length _; simp))) ALeL.refl (c_compactI0) rfl ?_) | fail)
      exact ⟨ALe.pv PLe.nil⟩
    · have hso := c_sortI (roomsR m.classes) hne (by omega)
      have hne2 : sortI (roomsR m.classes) ≠ [] := fun e => hne (List.eq_nil_of_length_eq_zero (by rw [← sortI_len, e]; rfl))
      have hco := c_compactI (sortI (roomsR m.classes)) hne2 (by rw [sortI_len]; omega)
      rw [sortI_len] at hco
      rw [sl_ne hne rfl, ob_ne hne]
      repeat' (first | ((change vcFun _ _ _ _ _; refine call_one (i := 1) rfl (fun _ _ => rfl) [.ms 0 1 0 (roomsR m.classes).length] rfl hso ?_; rintro r H' ⟨rfl, rfl⟩; refine ⟨_, rfl, fun _ _ => rfl, fun _ _ => rfl, ?_⟩)) | refine o1 ?_ | refine o2 ?_ | refine k1 ?_ | refine k2 ?_ | refine k3 ?_ | refine k8 ?_ | refine And.intro ?_ ?_ | (intro h; first | exact Bool.noConfusion h | exact nz _ h | exact nl h | (simp at h; done) | (simp at h; first | (exfalso; omega) | skip) | skip) | fail)
      change vcFun _ _ _ _ _
      refine call_obj [1] [some ⟨3, 1, false, .p ((sortI (roomsR m.classes)).map intRow)⟩] [.ms 0 1 0 (roomsR m.classes).length] rfl ⟨rfl, trivial⟩ rfl hco ?_
      rintro r H' ⟨rfl, zs, rfl⟩
      have hfin : Leq (.pv (.sl 1 ((List.map intRow (compactI (sortI (roomsR m.classes))) ++ List.map intRow zs).drop 0 |>.take (compactI (sortI (roomsR m.classes))).length))) (.pv (.sl 1 ((roomsV m).map intRow))) := by
        rw [List.drop_zero, List.take_append_of_le_length (by rw [List.length_map]; exact Nat.le_refl _), List.take_of_length_le (by rw [List.length_map]; exact Nat.le_refl _)]
        exact ⟨ALe.refl⟩
      have hle : 0 + (compactI (sortI (roomsR m.classes))).length ≤ (List.map intRow (compactI (sortI (roomsR m.classes))) ++ List.map intRow zs).length := by
        rw [List.length_append, List.length_map]; omega
      generalize (compactI (sortI (roomsR m.classes))) = C at *
      refine ⟨Nat.le_refl _, ?_⟩
      repeat' (first | refine o1 ?_ | refine o2 ?_ | refine k7 ?_ | fail)
      exact ret_pure rfl (by repeat' (first | exact hle)) hfin
theorem c_numbers (m : Model) (hz : sizedP m) : PCall Tryz.prog 41 [ag m.cells] (fun r => r = .pv (.sl 1 ((roomsV m).map intRow))) := (c_numbers0 m hz).weak fun r k => ⟨_, k.le, rfl⟩
end Go.Proofs.YtihpjcmloecaaaaGreat.Cw
/-
  Symmetry: the rooms of a model, ascending, by the reference.
-/
namespace Go.Proofs.YtihpjcmloecaaaaGreat.Cw
open Go Go.Cw Go.Proofs
set_option linter.unusedVariables false
set_option maxRecDepth 100000
set_option maxHeartbeats 8000000
def allL (l : List Opt) : List Int := l.map fun o => o.place.room
def allR (c : List (List Opt)) : List Int := c.flatMap allL
theorem roomsR_mem {c : List (List Opt)} {x : Int} : x ∈ roomsR c ↔ 0 ≤ x ∧ x ∈ allR c := by
  unfold roomsR allR roomL allL
  simp only [List.mem_flatMap, List.mem_filter, decide_eq_true_eq]
  constructor
  · rintro ⟨l, h1, h2, h3⟩; exact ⟨h3, l, h1, h2⟩
  · rintro ⟨h3, l, h1, h2⟩; exact ⟨l, h1, h2, h3⟩
theorem rooms_spec (m : Model) : (∀ x, x ∈ roomsV m ↔ 0 ≤ x ∧ x ∈ allR m.classes) ∧ (roomsV m).Pairwise fun a b => a < b := by
  obtain ⟨h1, h2⟩ := compactI_spec (sortI_asc (roomsR m.classes))
  refine ⟨fun x => ?_, h2⟩
  show x ∈ compactI _ ↔ _
  rw [h1, (sortI_perm _).mem_iff, roomsR_mem]
def NX (last : Int) (rs : List Int) (n : Int) : Prop := (n = -1 ∧ ∀ r ∈ rs, ¬ last < r) ∨ (n ∈ rs ∧ last < n ∧ ∀ r ∈ rs, last < r → n ≤ r)
def lastI (V : List Int) : Nat → Int
  | 0 => -1
  | t + 1 => (V[t]?).getD (-1)
section
variable {m : Model} {t : Nat} {n : Int}
end
theorem rooms_len {m : Model} (hz : sizedP m) : (roomsV m).length ≤ 576 := by
  have h1 := roomsR_len hz.2.1
  have h2 := hz.1
  have h3 := compactI_len (sortI (roomsR m.classes))
  rw [sortI_len] at h3
  unfold roomsV
  omega
end Go.Proofs.YtihpjcmloecaaaaGreat.Cw
